/- slices.Clone at sfnt.Table. No condition but its own premises. -/
import Derived.Test.YtmppdgjnibamlabSfS
import Derived.Test.YtmppdgjnibamlabPSfx1
import Derived.Test.YtmppdgjnibamlabPgH
import Derived.Test.YtmppdgjnibamlabO4A
namespace Go.Proofs.Ytmppdgjnibamlab.Pag
open Go.Shelf Go.RowKit Go.Lib Go.Sort Go.Proofs.Ytmppdgjnibamlab.PSf Go.Proofs.YtmppdgjnibamlabW.PrintWords
set_option linter.unusedVariables false
set_option linter.unusedSimpArgs false

def kcl : Kd Cl where
  sz := 2
  E := []
  K := fun _ x cs => cs = encT x
  M := fun _ _ _ x cs => cs = encT x
  K_len := fun h => by rw [h]; rfl
  K_one := fun h => by rw [h]; intro u hu; simp [encT] at hu; rcases hu with rfl | rfl <;> rfl
  K_below := fun _ h => h
  K_of_M := fun h => h
  M_mono := fun _ h => h
  M_bound := fun h => h
  M_move := fun _ h => h
  M_lower := fun _ h => h
theorem choose_cl {w : World} {A : Option Addr} {l : List S115} (h : Kd.C k115 w A l.length l) (hp : 0 < l.length) :
    ∃ cl : List Cl, cl.map (·.t) = l ∧ (∀ x ∈ cl, x.t.f1.length ≤ x.c ∧ (Kd.int .u8).C w x.A x.t.f1.length x.t.f1) ∧ ReadsRow (fun x cs => cs = encT x) 2 w A l.length cl ∧ ∃ ad, A = some ad := by
  obtain ⟨ad, rfl, hc⟩ := h.2.2 hp
  have h1 : ∀ j : Fin l.length, ∃ y : Option Addr × Nat, (l[j]).f1.length ≤ y.2 ∧ (Kd.int .u8).C w y.1 (l[j]).f1.length (l[j]).f1 ∧ ∀ i u, (encT ⟨l[j], y.1, y.2⟩)[i]? = some u → w.cell? (ad.add (j.val * 2 + i)) = some u := by
    intro j
    obtain ⟨c, hcl, hK, hcell⟩ := hc j.val l[j] (by simp)
    obtain ⟨A1, c1, rfl, hle, hC⟩ := k115_open hK
    exact ⟨(A1, c1), hle, hC, hcell⟩
  obtain ⟨f, hf⟩ := Classical.axiomOfChoice h1
  refine ⟨List.ofFn fun j => ⟨l[j], (f j).1, (f j).2⟩, ?_, ?_, ⟨by simp, h.2.1, fun _ => ⟨ad, rfl, fun j p hj => ?_⟩⟩, ad, rfl⟩
  · apply List.ext_getElem (by simp)
    intro i h1 h2
    simp
  · intro x hx
    obtain ⟨j, rfl⟩ := (List.mem_ofFn).1 hx
    exact ⟨(hf j).1, (hf j).2.1⟩
  · obtain ⟨hlt, rfl⟩ := List.getElem?_eq_some_iff.1 hj
    simp only [List.length_ofFn] at hlt
    simp only [List.getElem_ofFn]
    exact ⟨_, rfl, rfl, fun i u hu => (hf ⟨j, hlt⟩).2.2 i u hu⟩
theorem cells_of_row {w w1 : World} {v : Value} {cl : List Cl} (hp : 0 < cl.length) (h : kcl.R 115 w1 w.heap.size (fun _ => True) v cl) :
    ∃ g cap, v = .slice (some ⟨g, 0, none⟩) cl.length cap ∧ w.heap.size ≤ g ∧ g < w1.heap.size ∧ HoldsK encT 2 w1 g 0 cl.toArray := by
  obtain ⟨-, inner, ⟨hil, hown⟩, hr1, hr2⟩ := h
  rcases hown with ⟨_, h0⟩ | ⟨g, cap, cur, rfl, hb, hblk, hle, hm, hsz, htk⟩
  · omega
  · refine ⟨g, cap, rfl, hb, (Array.getElem?_eq_some_iff.1 hblk).1, fun j hj => ⟨?_, by simp [World.frozen?, hblk]⟩⟩
    have hj' : j < cl.length * 2 := by simpa using hj
    rw [get_flatK _ _ _ _ (by simpa using hj')]
    have hq : j / 2 < cl.length := by omega
    have hpq := hr2 (j / 2) _ (List.getElem?_eq_getElem hq)
    have e1 : cl.toArray[j / 2]! = cl[j / 2] := by simp [hq]
    rw [e1, ← (show _ = encT cl[j / 2] from hpq)]
    have hil' : inner.length = cl.length * 2 := hil
    have e2 : (List.take kcl.sz (List.drop (j / 2 * kcl.sz) inner))[j % 2]? = inner[j]? := by
      show (List.take 2 (List.drop (j / 2 * 2) inner))[j % 2]? = inner[j]?
      rw [List.getElem?_take, if_pos (by omega), List.getElem?_drop]
      congr 1; omega
    have hcs : cur.size = cap * 2 := hsz
    have htk' : cur.toList.take (cl.length * 2) = inner := htk
    have e3 : inner[j]? = cur[j]? := by
      rw [← htk', List.getElem?_take, if_pos hj']; simp
    rw [List.getElem!_eq_getElem?_getD, e2, e3]
    have hlt : j < cur.size := by omega
    simp [World.cell?, hblk, hlt]

set_option maxHeartbeats 1000000 in
set_option maxRecDepth 100000 in
theorem clone_calls (A0 : Option Addr) (c0 : Nat) (l0 : List S115) (w : World) (hr0 : Kd.C k115 w A0 l0.length l0) (hp : 0 < l0.length) (hl : l0.length ≤ 1000000) :
    Calls Try.prog 73 #[.slice A0 l0.length c0] w fun e w' => ∃ g cap, e = .returned (.slice (some ⟨g, 0, none⟩) l0.length cap) ∧ CellsT w w' g l0 ∧ Below w.heap.size w w' := by
  obtain ⟨cl, hcl, hcb, hrow, ad, rfl⟩ := choose_cl hr0 hp
  have hlen : cl.length = l0.length := by rw [← hcl]; simp
  have HL := Aside0.mk hl
  have HR := Aside0.mk hrow
  have HE : Aside0 (kcl.R 115 (w.alloc (.cells #[] 115)) w.heap.size (fun _ => True) (.slice (some ⟨w.heap.size, 0, none⟩) 0 0) ([] : List Cl)) := ⟨⟨fun _ _ => trivial, OwnRow.lit w w.heap.size (ps := ([] : List Cl)) (inner := []) (Reps.none _ _) (Nat.le_refl _) (by simp)⟩⟩
  have HF : Aside0 (∀ (W : World) (v : Value), kcl.R 115 W w.heap.size (fun _ => True) v ([] ++ cl) → ∃ g cap, v = .slice (some ⟨g, 0, none⟩) l0.length cap ∧ CellsT w W g l0) := ⟨fun W v h => by
    obtain ⟨g, cap, rfl, h1, h2, h3⟩ := cells_of_row (by simpa [hlen] using hp) h
    exact ⟨g, cap, by rw [List.nil_append, hlen], h1, h2, by omega, cl, hcl, hcb, h3⟩⟩
  have hq := fun (W : World) => Lib.run_eql_slice_nil W 62 115 (some ad) l0.length c0 0 0 Try.underlying62
  clear hr0 hrow hcb hl hp hcl
  go_enter Try.func73, Try.ntmps73
  go_wp2_with (at_builtin; refine Kd.R_append_rows kcl (Rr := fun x cs => cs = encT x) (w0 := w) w.heap.size rfl (.tmp 5) (.tmp 6) 62 115 _ 40 rfl Try.underlying62 info115 rfl (by decide) (by decide) _ [] cl (some ad) l0.length c0 (fun _ => True) (fun _ => False) rfl rfl HE.out (HR.out.imp_ ((Below.refl _ _).alloc (Nat.le_refl _) _) (fun _ _ h => h)) (fun _ _ h => h) (fun _ h => h.elim) (fun _ _ => trivial) ((Below.refl _ _).alloc (Nat.le_refl _) _) (by simp) (by have := HL.out; simp; omega) ?_; intro v1 w1 hR1 hB1 hg1 hat1; have HR1 := Aside0.mk hR1; have HB1 := Aside0.mk hB1; clear hR1 hB1 hg1 hat1)
  go_ret
  obtain ⟨g, cap, rfl, hC⟩ := HF.out _ _ HR1.out
  exact ⟨g, cap, rfl, hC, HB1.out⟩
end Go.Proofs.Ytmppdgjnibamlab.Pag

/-! What sfnt.Pack makes, in plain words; a page with a block beside it. No condition but their own premises. -/
namespace Go.Proofs.Ytmppdgjnibamlab.Pag
open Go.RowKit Go.Proofs.Ytmppdgjnibamlab.PSf Go.Proofs.YtmppdgjnibamlabW.PrintWords
set_option linter.unusedVariables false
set_option linter.unusedSimpArgs false

/-! ### check sums -/
def sumG : List Int → Nat → Int → Int
  | [], _, a => a
  | x :: r, i, a => sumG r (i + 1) ((a + shl .u32 (x % 4294967296) (24 - 8 * ((i % 4 : Nat) : Int))) % 4294967296)
def sumB (l : List Int) : Int := sumG l 0 0
theorem sumG_range : ∀ (l : List Int) (i : Nat) (a : Int), 0 ≤ a → a < 4294967296 → 0 ≤ sumG l i a ∧ sumG l i a < 4294967296
  | [], _, a, h0, h1 => ⟨h0, h1⟩
  | x :: r, i, a, _, _ => sumG_range r (i + 1) _ (by omega) (by omega)
theorem sumB_range (l : List Int) : 0 ≤ sumB l ∧ sumB l < 4294967296 := sumG_range l 0 0 (by omega) (by omega)
theorem sum_ev (l : List Int) (hl : l.length ≤ 9223372036854775807) : Ev (fun k => sfnt_Sum.f k l) (sumB l) := by
  have h : ∀ d i : Nat, i + d = l.length → ∀ a : Int, Ev (fun k => sfnt_Sum.l0 k a l (l.length : Int) (i : Int)) (sumG (l.drop i) i a) := by
    intro d
    induction d with
    | zero =>
      intro i hi a
      rw [List.drop_of_length_le (by omega)]
      exact Ev.step (fun k => by rw [sfnt_Sum.l0, if_neg (by omega)]; rfl) (Ev.now _)
    | succ d ih =>
      intro i hi a
      have hlt : i < l.length := by omega
      rw [List.drop_eq_getElem_cons hlt, sumG]
      have e1 : Int.tmod (i : Int) 4 = ((i % 4 : Nat) : Int) := (Int.tmod_eq_emod_of_nonneg (by omega)).trans (by omega)
      have e2 : wrap64 (8 * ((i % 4 : Nat) : Int)) = 8 * ((i % 4 : Nat) : Int) := by unfold wrap64; omega
      have e3 : wrap64 (24 - 8 * ((i % 4 : Nat) : Int)) = 24 - 8 * ((i % 4 : Nat) : Int) := by unfold wrap64; omega
      have e4 : wrap64 ((i : Int) + 1) = ((i + 1 : Nat) : Int) := by unfold wrap64; omega
      have e5 : rd l (i : Int) = l[i] := by simp [rd, hlt]
      exact Ev.step (fun k => by rw [sfnt_Sum.l0, if_pos (by omega), if_pos (by omega), if_pos (by omega), e1, e2, e3, if_pos (by omega), e4, e5]) (ih (i + 1) (by omega) _)
  exact h l.length 0 (by omega) 0

/-! ### pages, in plain words -/
abbrev St := Bool × List Int
def s32 (s : St) (x : Int) : St := (putF s.1 s.2 x 4, putB s.1 s.2 x 4)
def s16 (s : St) (x : Int) : St := (putF s.1 s.2 x 2, putB s.1 s.2 x 2)
def sTag (s : St) (x : ByteArray) : St := (tagF s.1 s.2 x, tagB s.1 s.2 x)
def sBytes (s : St) (x : List Int) : St := (s.1, putsB s.1 s.2 x)
def sPad (s : St) : St := (padF s.1 s.2 4, padB s.1 s.2 4)
def fill4 (n : Nat) : Int := (((n + 3) / 4 * 4 : Nat) : Int)
def dirS : List S115 → Int → St → St
  | [], _, s => s
  | t :: r, at_, s => dirS r (at_ + fill4 t.f1.length) (s32 (s32 (s32 (sTag s t.f0) (sumB t.f1)) at_) (t.f1.length : Int))
def bodS : List S115 → St → St
  | [], s => s
  | t :: r, s => bodS r (sPad (sBytes s t.f1))
def headS (n : Nat) : St := s16 (s16 (s16 (s16 (s32 (false, []) 65536) (n : Int)) (16 * ((2 ^ n.log2 : Nat) : Int))) (n.log2 : Int)) (16 * ((n : Int) - ((2 ^ n.log2 : Nat) : Int)))
def packS (m : List S115) : St := bodS m (dirS m (12 + 16 * (m.length : Int)) (headS m.length))
/-- In the print's form. -/
def sfnt_Pack.f (l : List S115) : Option (List Int × Int) := if fits l = true then (if fm l = true then some (allB (packS (sortT l)).1 (packS (sortT l)).2 [], allE (packS (sortT l)).1 (packS (sortT l)).2 []) else some ([], 1)) else none

/-! ### a page of the call's own, and a block beside it -/
def One (w0 wr : World) (base g : Nat) (s : St) : Prop := ∃ ok, Pg wr base ok g s.2 [] s.1 ∧ Below base w0 wr
def Beside (w0 wr : World) (base g : Nat) (s : St) (b : Nat) (o : Obj) : Prop := ∃ ok, Pg wr base ok g s.2 [] s.1 ∧ Below base w0 wr ∧ ¬ ok b ∧ wr.heap[b]? = some o
section
variable {w0 wr w1 : World} {base g b : Nat} {s s1 : St} {o : Obj}
theorem One.bel (h : One w0 wr base g s) : Below base w0 wr := by obtain ⟨ok, h1, h2⟩ := h; exact h2
theorem One.base_le (h : One w0 wr base g s) : base ≤ wr.heap.size := by obtain ⟨ok, h1, h2⟩ := h; exact h1.base_le
theorem One.below (h : One w0 wr base g s) (hb : Below wr.heap.size wr w1) : One w0 w1 base g s := by
  have hbase := h.base_le
  obtain ⟨ok, h1, h2⟩ := h
  exact ⟨ok, h1.below hb, below_then h2 hbase hb⟩
theorem One.drewN (h : One w0 wr base g s) (n : Nat) : One w0 (wr.drewN n) base g s := by
  obtain ⟨ok, h1, h2⟩ := h
  exact ⟨ok, h1.drewN n, pw_below_drewN h2 n⟩
theorem One.call (h : One w0 wr base g s) {n : Nat} {args : Array Value} {E : Ending} (hc : ∀ ok, Pg wr base ok g s.2 [] s.1 → Calls Try.prog n args wr fun e w' => e = E ∧ Pst base ok wr w' g s1.2 [] s1.1) :
    Calls Try.prog n args wr fun e w' => e = E ∧ One w0 w' base g s1 := by
  obtain ⟨ok, h1, h2⟩ := h
  exact (hc ok h1).mono fun e w' ⟨he, hP⟩ => ⟨he, ⟨_, hP.pg, h2.trans hP.below⟩⟩
theorem One.alloc (h : One w0 wr base g s) (o : Obj) : Beside w0 (wr.alloc o) base g s wr.heap.size o := by
  have hbase := h.base_le
  obtain ⟨ok, h1, h2⟩ := h
  exact ⟨_, h1.bound.alloc o, below_then h2 hbase (below_alloc (Below.refl _ _) o), fun hk => by omega, heap_alloc_new wr o⟩
theorem Beside.one (h : Beside w0 wr base g s b o) : One w0 wr base g s := by obtain ⟨ok, h1, h2, -⟩ := h; exact ⟨ok, h1, h2⟩
theorem Beside.blk (h : Beside w0 wr base g s b o) : wr.heap[b]? = some o := by obtain ⟨ok, h1, h2, h3, h4⟩ := h; exact h4
theorem Beside.drewN (h : Beside w0 wr base g s b o) (n : Nat) : Beside w0 (wr.drewN n) base g s b o := by
  obtain ⟨ok, h1, h2, h3, h4⟩ := h
  exact ⟨ok, h1.drewN n, pw_below_drewN h2 n, h3, h4⟩
theorem Beside.call (h : Beside w0 wr base g s b o) {n : Nat} {args : Array Value} {E : Ending} (hc : ∀ ok, Pg wr base ok g s.2 [] s.1 → Calls Try.prog n args wr fun e w' => e = E ∧ Pst base ok wr w' g s1.2 [] s1.1) :
    Calls Try.prog n args wr fun e w' => e = E ∧ Beside w0 w' base g s1 b o := by
  obtain ⟨ok, h1, h2, h3, h4⟩ := h
  have hlt : b < wr.heap.size := (Array.getElem?_eq_some_iff.1 h4).1
  refine (hc ok h1).mono fun e w' ⟨he, hP⟩ => ⟨he, ⟨_, hP.pg, h2.trans hP.below, fun hk => ?_, (hP.kept.2 b hlt h3).trans h4⟩⟩
  rcases hk with hk | hk
  · exact h3 hk
  · omega
theorem Beside.cell {cs : Array Value} {t : TypeId} (h : Beside w0 wr base g s b (.cells cs t)) (i : Nat) : wr.cell? ⟨b, i, none⟩ = cs[i]? := by
  have := h.blk
  simp [World.cell?, this]
theorem One.put32 (h : One w0 wr base g s) (x : Int) : Calls Try.prog 77 #[.pointer (some ⟨g, 0, none⟩), .int .i64 x] wr fun e w' => e = .returned (.tuple #[]) ∧ One w0 w' base g (s32 s x) :=
  h.call fun ok h => Put32_calls h x
theorem One.pad (h : One w0 wr base g s) : Calls Try.prog 80 #[.pointer (some ⟨g, 0, none⟩), .int .i64 4] wr fun e w' => e = .returned (.tuple #[]) ∧ One w0 w' base g (sPad s) :=
  h.call fun ok h => Pad_calls h 4
theorem Beside.put32 (h : Beside w0 wr base g s b o) (x : Int) : Calls Try.prog 77 #[.pointer (some ⟨g, 0, none⟩), .int .i64 x] wr fun e w' => e = .returned (.tuple #[]) ∧ Beside w0 w' base g (s32 s x) b o :=
  h.call fun ok h => Put32_calls h x
theorem Beside.put16 (h : Beside w0 wr base g s b o) (x : Int) : Calls Try.prog 47 #[.pointer (some ⟨g, 0, none⟩), .int .i64 x] wr fun e w' => e = .returned (.tuple #[]) ∧ Beside w0 w' base g (s16 s x) b o :=
  h.call fun ok h => Put16_calls h x
theorem Beside.putTag (h : Beside w0 wr base g s b o) (x : ByteArray) (hx : x.size ≤ 9223372036854775807) : Calls Try.prog 78 #[.pointer (some ⟨g, 0, none⟩), .string x] wr fun e w' => e = .returned (.tuple #[]) ∧ Beside w0 w' base g (sTag s x) b o :=
  h.call fun ok h => PutTag_calls h x hx
theorem Beside.putBytes (h : Beside w0 wr base g s b o) (A : Option Addr) (c : Nat) (l : List Int) (hl : l.length ≤ 100000000000) (hC : Kd.C (Kd.int .u8) wr A l.length l) : Calls Try.prog 79 #[.pointer (some ⟨g, 0, none⟩), .slice A l.length c] wr fun e w' => e = .returned (.tuple #[]) ∧ Beside w0 w' base g (sBytes s l) b o :=
  h.call fun ok h => PutBytes_calls h A c l hC hl
theorem Beside.pad (h : Beside w0 wr base g s b o) : Calls Try.prog 80 #[.pointer (some ⟨g, 0, none⟩), .int .i64 4] wr fun e w' => e = .returned (.tuple #[]) ∧ Beside w0 w' base g (sPad s) b o :=
  h.call fun ok h => Pad_calls h 4
theorem One.all (h : One w0 wr base g s) : Calls Try.prog 48 #[.pointer (some ⟨g, 0, none⟩)] wr fun e w' => ∃ v, e = .returned (.tuple #[v, .int .i64 (allE s.1 s.2 [])]) ∧ Kd.R (Kd.int .u8) 5 w' wr.heap.size (fun _ => True) v (allB s.1 s.2 []) ∧ Below wr.heap.size wr w' := by
  obtain ⟨ok, h1, h2⟩ := h
  exact All_calls h1
theorem One.new (w : World) : One w (w.alloc (.cells #[.slice none 0 0, .slice none 0 0, .bool false] 79)) w.heap.size w.heap.size (false, []) :=
  ⟨_, Pag.Pg.new w w.heap.size (Nat.le_refl _), below_alloc (Below.refl _ _) _⟩
end
end Go.Proofs.Ytmppdgjnibamlab.Pag
