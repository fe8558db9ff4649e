/- What sfnt.Pack makes, in plain words; a page with a block beside it. No condition but their own premises. -/
import Derived.Test.YtmppdgjnibamlaaSfC
import Derived.Test.YtmppdgjnibamlaaPSfx1
import Derived.Test.YtmppdgjnibamlaaPgH
import Derived.Test.YtmppdgjnibamlaaO4A
namespace Go.Proofs.Ytmppdgjnibamlaa.Pag
open Go.RowKit Go.Proofs.Ytmppdgjnibamlaa.PSf Go.Proofs.YtmppdgjnibamlaaW.PrintWords
set_option linter.unusedVariables false
set_option linter.unusedSimpArgs false

/-! ### check sums -/
def sumG : List Int → Nat → Int → Int
  | [], _, a => a
  | x :: r, i, a => sumG r (i + 1) ((a + shl .u32 (x % 4294967296) (24 - 8 * ((i % 4 : Nat) : Int))) % 4294967296)
def sumB (l : List Int) : Int := sumG l 0 0
theorem sumG_range : ∀ (l : List Int) (i : Nat) (a : Int), 0 ≤ a → a < 4294967296 → 0 ≤ sumG l i a ∧ sumG l i a < 4294967296
  | [], _, a, h0, h1 => ⟨h0, h1⟩
  | x :: r, i, a, _, _ => sumG_range r (i + 1) _ (by omega) (by omega)
theorem sumB_range (l : List Int) : 0 ≤ sumB l ∧ sumB l < 4294967296 := sumG_range l 0 0 (by omega) (by omega)
theorem sum_ev (l : List Int) (hl : l.length ≤ 9223372036854775807) : Ev (fun k => sfnt_Sum.f k l) (sumB l) := by
  have h : ∀ d i : Nat, i + d = l.length → ∀ a : Int, Ev (fun k => sfnt_Sum.l0 k a l (l.length : Int) (i : Int)) (sumG (l.drop i) i a) := by
    intro d
    induction d with
    | zero =>
      intro i hi a
      rw [List.drop_of_length_le (by omega)]
      exact Ev.step (fun k => by rw [sfnt_Sum.l0, if_neg (by omega)]; rfl) (Ev.now _)
    | succ d ih =>
      intro i hi a
      have hlt : i < l.length := by omega
      rw [List.drop_eq_getElem_cons hlt, sumG]
      have e1 : Int.tmod (i : Int) 4 = ((i % 4 : Nat) : Int) := (Int.tmod_eq_emod_of_nonneg (by omega)).trans (by omega)
      have e2 : wrap64 (8 * ((i % 4 : Nat) : Int)) = 8 * ((i % 4 : Nat) : Int) := by unfold wrap64; omega
      have e3 : wrap64 (24 - 8 * ((i % 4 : Nat) : Int)) = 24 - 8 * ((i % 4 : Nat) : Int) := by unfold wrap64; omega
      have e4 : wrap64 ((i : Int) + 1) = ((i + 1 : Nat) : Int) := by unfold wrap64; omega
      have e5 : rd l (i : Int) = l[i] := by simp [rd, hlt]
      exact Ev.step (fun k => by rw [sfnt_Sum.l0, if_pos (by omega), if_pos (by omega), if_pos (by omega), e1, e2, e3, if_pos (by omega), e4, e5]) (ih (i + 1) (by omega) _)
  exact h l.length 0 (by omega) 0

/-! ### pages, in plain words -/
abbrev St := Bool × List Int
def s32 (s : St) (x : Int) : St := (putF s.1 s.2 x 4, putB s.1 s.2 x 4)
def s16 (s : St) (x : Int) : St := (putF s.1 s.2 x 2, putB s.1 s.2 x 2)
def sTag (s : St) (x : ByteArray) : St := (tagF s.1 s.2 x, tagB s.1 s.2 x)
def sBytes (s : St) (x : List Int) : St := (s.1, putsB s.1 s.2 x)
def sPad (s : St) : St := (padF s.1 s.2 4, padB s.1 s.2 4)
def fill4 (n : Nat) : Int := (((n + 3) / 4 * 4 : Nat) : Int)
def dirS : List S72 → Int → St → St
  | [], _, s => s
  | t :: r, at_, s => dirS r (at_ + fill4 t.f1.length) (s32 (s32 (s32 (sTag s t.f0) (sumB t.f1)) at_) (t.f1.length : Int))
def bodS : List S72 → St → St
  | [], s => s
  | t :: r, s => bodS r (sPad (sBytes s t.f1))
def headS (n : Nat) : St := s16 (s16 (s16 (s16 (s32 (false, []) 65536) (n : Int)) (16 * ((2 ^ n.log2 : Nat) : Int))) (n.log2 : Int)) (16 * ((n : Int) - ((2 ^ n.log2 : Nat) : Int)))
def packS (m : List S72) : St := bodS m (dirS m (12 + 16 * (m.length : Int)) (headS m.length))
/-- In the print's form. -/
def sfnt_Pack.f (l : List S72) : Option (List Int × Int) := if fits l = true then (if fm l = true then some (allB (packS (sortT l)).1 (packS (sortT l)).2 [], allE (packS (sortT l)).1 (packS (sortT l)).2 []) else some ([], 1)) else none

/-! ### a page of the call's own, and a block beside it -/
def One (w0 wr : World) (base g : Nat) (s : St) : Prop := ∃ ok, Pg wr base ok g s.2 [] s.1 ∧ Below base w0 wr
def Beside (w0 wr : World) (base g : Nat) (s : St) (b : Nat) (o : Obj) : Prop := ∃ ok, Pg wr base ok g s.2 [] s.1 ∧ Below base w0 wr ∧ ¬ ok b ∧ wr.heap[b]? = some o
section
variable {w0 wr w1 : World} {base g b : Nat} {s s1 : St} {o : Obj}
theorem One.bel (h : One w0 wr base g s) : Below base w0 wr := by obtain ⟨ok, h1, h2⟩ := h; exact h2
theorem One.base_le (h : One w0 wr base g s) : base ≤ wr.heap.size := by obtain ⟨ok, h1, h2⟩ := h; exact h1.base_le
theorem One.below (h : One w0 wr base g s) (hb : Below wr.heap.size wr w1) : One w0 w1 base g s := by
  have hbase := h.base_le
  obtain ⟨ok, h1, h2⟩ := h
  exact ⟨ok, h1.below hb, below_then h2 hbase hb⟩
theorem One.drewN (h : One w0 wr base g s) (n : Nat) : One w0 (wr.drewN n) base g s := by
  obtain ⟨ok, h1, h2⟩ := h
  exact ⟨ok, h1.drewN n, pw_below_drewN h2 n⟩
theorem One.call (h : One w0 wr base g s) {n : Nat} {args : Array Value} {E : Ending} (hc : ∀ ok, Pg wr base ok g s.2 [] s.1 → Calls Try.prog n args wr fun e w' => e = E ∧ Pst base ok wr w' g s1.2 [] s1.1) :
    Calls Try.prog n args wr fun e w' => e = E ∧ One w0 w' base g s1 := by
  obtain ⟨ok, h1, h2⟩ := h
  exact (hc ok h1).mono fun e w' ⟨he, hP⟩ => ⟨he, ⟨_, hP.pg, h2.trans hP.below⟩⟩
theorem One.alloc (h : One w0 wr base g s) (o : Obj) : Beside w0 (wr.alloc o) base g s wr.heap.size o := by
  have hbase := h.base_le
  obtain ⟨ok, h1, h2⟩ := h
  exact ⟨_, h1.bound.alloc o, below_then h2 hbase (below_alloc (Below.refl _ _) o), fun hk => by omega, heap_alloc_new wr o⟩
theorem Beside.one (h : Beside w0 wr base g s b o) : One w0 wr base g s := by obtain ⟨ok, h1, h2, -⟩ := h; exact ⟨ok, h1, h2⟩
theorem Beside.blk (h : Beside w0 wr base g s b o) : wr.heap[b]? = some o := by obtain ⟨ok, h1, h2, h3, h4⟩ := h; exact h4
theorem Beside.drewN (h : Beside w0 wr base g s b o) (n : Nat) : Beside w0 (wr.drewN n) base g s b o := by
  obtain ⟨ok, h1, h2, h3, h4⟩ := h
  exact ⟨ok, h1.drewN n, pw_below_drewN h2 n, h3, h4⟩
theorem Beside.call (h : Beside w0 wr base g s b o) {n : Nat} {args : Array Value} {E : Ending} (hc : ∀ ok, Pg wr base ok g s.2 [] s.1 → Calls Try.prog n args wr fun e w' => e = E ∧ Pst base ok wr w' g s1.2 [] s1.1) :
    Calls Try.prog n args wr fun e w' => e = E ∧ Beside w0 w' base g s1 b o := by
  obtain ⟨ok, h1, h2, h3, h4⟩ := h
  have hlt : b < wr.heap.size := (Array.getElem?_eq_some_iff.1 h4).1
  refine (hc ok h1).mono fun e w' ⟨he, hP⟩ => ⟨he, ⟨_, hP.pg, h2.trans hP.below, fun hk => ?_, (hP.kept.2 b hlt h3).trans h4⟩⟩
  rcases hk with hk | hk
  · exact h3 hk
  · omega
theorem Beside.cell {cs : Array Value} {t : TypeId} (h : Beside w0 wr base g s b (.cells cs t)) (i : Nat) : wr.cell? ⟨b, i, none⟩ = cs[i]? := by
  have := h.blk
  simp [World.cell?, this]
theorem One.put32 (h : One w0 wr base g s) (x : Int) : Calls Try.prog 17 #[.pointer (some ⟨g, 0, none⟩), .int .i64 x] wr fun e w' => e = .returned (.tuple #[]) ∧ One w0 w' base g (s32 s x) :=
  h.call fun ok h => Put32_calls h x
theorem One.pad (h : One w0 wr base g s) : Calls Try.prog 33 #[.pointer (some ⟨g, 0, none⟩), .int .i64 4] wr fun e w' => e = .returned (.tuple #[]) ∧ One w0 w' base g (sPad s) :=
  h.call fun ok h => Pad_calls h 4
theorem Beside.put32 (h : Beside w0 wr base g s b o) (x : Int) : Calls Try.prog 17 #[.pointer (some ⟨g, 0, none⟩), .int .i64 x] wr fun e w' => e = .returned (.tuple #[]) ∧ Beside w0 w' base g (s32 s x) b o :=
  h.call fun ok h => Put32_calls h x
theorem Beside.put16 (h : Beside w0 wr base g s b o) (x : Int) : Calls Try.prog 18 #[.pointer (some ⟨g, 0, none⟩), .int .i64 x] wr fun e w' => e = .returned (.tuple #[]) ∧ Beside w0 w' base g (s16 s x) b o :=
  h.call fun ok h => Put16_calls h x
theorem Beside.putTag (h : Beside w0 wr base g s b o) (x : ByteArray) (hx : x.size ≤ 9223372036854775807) : Calls Try.prog 21 #[.pointer (some ⟨g, 0, none⟩), .string x] wr fun e w' => e = .returned (.tuple #[]) ∧ Beside w0 w' base g (sTag s x) b o :=
  h.call fun ok h => PutTag_calls h x hx
theorem Beside.putBytes (h : Beside w0 wr base g s b o) (A : Option Addr) (c : Nat) (l : List Int) (hl : l.length ≤ 100000000000) (hC : Kd.C (Kd.int .u8) wr A l.length l) : Calls Try.prog 32 #[.pointer (some ⟨g, 0, none⟩), .slice A l.length c] wr fun e w' => e = .returned (.tuple #[]) ∧ Beside w0 w' base g (sBytes s l) b o :=
  h.call fun ok h => PutBytes_calls h A c l hC hl
theorem Beside.pad (h : Beside w0 wr base g s b o) : Calls Try.prog 33 #[.pointer (some ⟨g, 0, none⟩), .int .i64 4] wr fun e w' => e = .returned (.tuple #[]) ∧ Beside w0 w' base g (sPad s) b o :=
  h.call fun ok h => Pad_calls h 4
theorem One.all (h : One w0 wr base g s) : Calls Try.prog 22 #[.pointer (some ⟨g, 0, none⟩)] wr fun e w' => ∃ v, e = .returned (.tuple #[v, .int .i64 (allE s.1 s.2 [])]) ∧ Kd.R (Kd.int .u8) 5 w' wr.heap.size (fun _ => True) v (allB s.1 s.2 []) ∧ Below wr.heap.size wr w' := by
  obtain ⟨ok, h1, h2⟩ := h
  exact All_calls h1
theorem One.new (w : World) : One w (w.alloc (.cells #[.slice none 0 0, .slice none 0 0, .bool false] 28)) w.heap.size w.heap.size (false, []) :=
  ⟨_, Pag.Pg.new w w.heap.size (Nat.le_refl _), below_alloc (Below.refl _ _) _⟩
end
end Go.Proofs.Ytmppdgjnibamlaa.Pag
