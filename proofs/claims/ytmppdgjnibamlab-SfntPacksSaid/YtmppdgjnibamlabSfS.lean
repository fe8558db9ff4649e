/- slices.Clone and slices.SortFunc at sfnt.Table, as sfnt.Pack calls them. No condition but their own premises. -/
import Derived.Test.YtmppdgjnibamlabSfO
import Derived.Test.YtmppdgjnibamlabSfS0
namespace Go.Proofs.Ytmppdgjnibamlab.Pag
open Go.Shelf Go.RowKit Go.Lib Go.Sort Go.Proofs.Ytmppdgjnibamlab.PSf Go.Proofs.YtmppdgjnibamlabW.PrintWords
set_option linter.unusedVariables false
set_option linter.unusedSimpArgs false

theorem isNaN_calls (a : ByteArray) (w : World) : Calls Try.prog 111 #[.string a] w fun e w' => e = .returned (.bool false) ∧ w = w' := by
  go_enter Try.func111, Try.ntmps111
  go_wp2
  go_ret
  exact ⟨by simp, rfl⟩
theorem run_gtr_string (P : Program) (t : TypeId) (a b : ByteArray) (w : World) : (binOp .gtr t (.string a) (.string b)).run P w = .ok (.bool !(Op.bytesLess a.toList b.toList || a.toList == b.toList)) w := by
  simp [binOp, Op.stringOp]
/-- What cmp.Compare answers at strings. -/
def cmpS (a b : ByteArray) : Int := if bef a b = true then -1 else if a.toList = b.toList then 0 else 1
theorem Compare_calls (a b : ByteArray) (w : World) : Calls Try.prog 76 #[.string a, .string b] w fun e w' => e = .returned (.int .i64 (cmpS a b)) ∧ w = w' := by
  have HN := Aside0.mk (fun (x : ByteArray) (W : World) => isNaN_calls x W)
  by_cases h1 : bef a b = true
  · have e : cmpS a b = -1 := by unfold cmpS; rw [if_pos h1]
    rw [e]
    unfold bef at h1
    clear e
    go_enter Try.func76, Try.ntmps76
    go_wp2_with (go_at_call 111; refine (HN.out _ _).mono ?_; rintro e w' ⟨rfl, rfl⟩)
    go_ret
    exact ⟨rfl, rfl⟩
  · by_cases h2 : a.toList = b.toList
    · have e : cmpS a b = 0 := by unfold cmpS; rw [if_neg h1, if_pos h2]
      rw [e]
      have h3 : Op.bytesLess a.toList b.toList = false := by simpa [bef] using h1
      have h4 : (a.toList == b.toList) = true := by simpa using h2
      have hg := fun w => run_gtr_string Try.prog 9 a b w
      simp only [h3, h4] at hg
      clear e h1 h2
      go_enter Try.func76, Try.ntmps76
      go_wp2_with (go_at_call 111; refine (HN.out _ _).mono ?_; rintro e w' ⟨rfl, rfl⟩)
      go_ret
      exact ⟨rfl, rfl⟩
    · have e : cmpS a b = 1 := by unfold cmpS; rw [if_neg h1, if_neg h2]
      rw [e]
      have h3 : Op.bytesLess a.toList b.toList = false := by simpa [bef] using h1
      have h4 : (a.toList == b.toList) = false := by simpa using h2
      have hg := fun w => run_gtr_string Try.prog 9 a b w
      simp only [h3, h4] at hg
      clear e h1 h2
      go_enter Try.func76, Try.ntmps76
      go_wp2_with (go_at_call 111; refine (HN.out _ _).mono ?_; rintro e w' ⟨rfl, rfl⟩)
      go_ret
      exact ⟨rfl, rfl⟩

/-- A table's cells. -/
structure Cl where
  t : S115
  A : Option Addr
  c : Nat
instance : Inhabited Cl := ⟨⟨z115, none, 0⟩⟩
def encT (x : Cl) : List Value := [.string x.t.f0, .slice x.A x.t.f1.length x.c]
def cfT (x y : Cl) : Int := cmpS x.t.f0 y.t.f0
theorem ltT (x y : Cl) : ltOf cfT x y = bef x.t.f0 y.t.f0 := by
  unfold ltOf cfT cmpS
  by_cases h1 : bef x.t.f0 y.t.f0 = true
  · simp [h1]
  · rw [if_neg h1]
    have : bef x.t.f0 y.t.f0 = false := by simpa using h1
    rw [this]
    split <;> simp
theorem swoT : SWO (ltOf cfT) where
  irrefl x := by rw [ltT, bef_irrefl]
  trans x y z h1 h2 := by rw [ltT] at *; exact bef_trans h1 h2
  ntrans x y z h1 h2 := by rw [ltT] at *; exact bef_ntrans h1 h2
set_option maxHeartbeats 1000000 in
theorem closure_calls (x y : Cl) (W : World) : Calls Try.prog 75 #[.agg (encT x).toArray, .agg (encT y).toArray] W fun e w' => e = .returned (.int .i64 (cfT x y)) ∧ ∃ q os', w' = grow (W.drewN q) os' := by
  have HC := Aside0.mk (fun (W : World) => Compare_calls x.t.f0 y.t.f0 W)
  obtain ⟨⟨x0, x1⟩, xa, xc⟩ := x
  obtain ⟨⟨y0, y1⟩, ya, yc⟩ := y
  simp only [cfT] at HC ⊢
  generalize cmpS x0 y0 = r at HC ⊢
  simp only [encT]
  go_enter Try.func75, Try.ntmps75
  go_wp2_with (go_at_call 76; refine (HC.out _).mono ?_; rintro e w' ⟨rfl, rfl⟩)
  go_ret
  exact ⟨rfl, 0, _, by rw [alloc_eq_grow, alloc_eq_grow, grow_grow]; rfl⟩
theorem lays_T (blk off size : Nat) (w : World) : CmpLays Try.prog 75 #[] encT 2 cfT blk off size w := fun _ _ _ _ x y => closure_calls x y _

/-- A row of the call's own that holds the tables; their bytes are read in the world ahead. -/
def CellsT (w w' : World) (g : Nat) (l : List S115) : Prop :=
  w.heap.size ≤ g ∧ g < w'.heap.size ∧ l.length ≤ 4000000000000 ∧ ∃ cl : List Cl, cl.map (·.t) = l ∧ (∀ x ∈ cl, x.t.f1.length ≤ x.c ∧ (Kd.int .u8).C w x.A x.t.f1.length x.t.f1) ∧ HoldsK encT 2 w' g 0 cl.toArray
theorem CellsT.C {w w' : World} {g : Nat} {l : List S115} (h : CellsT w w' g l) (hb : Below w.heap.size w w') : Kd.C k115 w' (some ⟨g, 0, none⟩) l.length l := by
  obtain ⟨h1, h2, h3, cl, rfl, h5, h6⟩ := h
  refine ⟨rfl, by omega, fun _ => ⟨_, rfl, fun j p hj => ?_⟩⟩
  rw [List.getElem?_map, Option.map_eq_some_iff] at hj
  obtain ⟨x, hx, rfl⟩ := hj
  obtain ⟨hlt, hx⟩ := List.getElem?_eq_some_iff.1 hx
  have hm := h5 x (hx ▸ List.getElem_mem hlt)
  refine ⟨encT x, rfl, k115_mk w' x.t hm.1 (Kd.C_below hm.2 hb), fun i u hu => ?_⟩
  have hi : i < 2 := by have := (List.getElem?_eq_some_iff.1 hu).1; simpa [encT] using this
  have hc := (h6.cell (i := j) (c := i) (by simpa using hlt) hi).1
  have e1 : cl.toArray[j]! = x := by simp [hlt, hx]
  rw [e1] at hc
  have e2 : (encT x)[i]! = u := by rw [List.getElem!_eq_getElem?_getD, hu]; rfl
  rw [e2] at hc
  have e3 : (({ block := g, off := 0 } : Addr).add (j * k115.sz + i)) = ⟨g, 0 + j * 2 + i, none⟩ := by
    show (({ block := g, off := 0 } : Addr).add (j * 2 + i)) = _
    rw [Go.Addr.add_lit, Nat.add_assoc]
  rw [e3]; exact hc
theorem below_sort {w w1 : World} {g n : Nat} {d : Array Cl} {os : Array Obj} (h1 : w.heap.size ≤ g) (hb : Below w.heap.size w w1) : Below w.heap.size w (sortWorldK encT 2 w1 g 0 n d os) := by
  refine ⟨hb.os, hb.tape, hb.output, ?_, fun k hk => ?_⟩
  · have := size_sortWorldK_c encT 2 w1 g 0 n d os
    have := hb.size
    omega
  · rw [← hb.block k hk]
    have hs := hb.size
    show (((Sort.ahead w1 n).heap.modify g (onCells _)) ++ os)[k]? = _
    rw [Array.getElem?_append_left (by simp [Sort.ahead]; omega), Array.getElem?_modify, if_neg (by omega)]
    rfl
theorem sort_calls {w w1 : World} {g : Nat} {l : List S115} (cap : Nat) (h : CellsT w w1 g l) (hb : Below w.heap.size w w1) (ha : apart l) :
    Calls Try.prog 74 #[.slice (some ⟨g, 0, none⟩) l.length cap, .func (.func 75) #[] #[]] w1 fun e w2 => e = .returned (.tuple #[]) ∧ CellsT w w2 g (sortT l) ∧ Below w.heap.size w w2 := by
  obtain ⟨h1, h2, h3, cl, rfl, h5, h6⟩ := h
  have eg : ∀ args w, (callFunc 75 args).run Try.prog w = .ok (.enter 75 args) w := enters_of Try.func75 (by kernel_rfl) rfl
  have hcon := AnyQ.slices_SortFunc Try.sortTab 2 Try.isAgg115 Try.sizeOf115 encT (fun _ => rfl) (fun x v hv => by simp [encT] at hv; rcases hv with rfl | rfl <;> rfl) cfT swoT 75 #[] g 0 cap cl.toArray w1 eg (lays_T g 0 _ w1) h6 h2 (by simp at h3 ⊢; omega)
  rw [List.length_map]
  simp only [List.size_toArray] at hcon
  refine Calls.mono (hcon : Calls Try.prog 74 _ _ _) ?_
  rintro e w2 ⟨rfl, d', n, os, hp, hs, rfl⟩
  have hsz : d'.size = cl.length := by simpa using hp.1
  have hperm : d'.toList.Perm cl := by
    have := hp.2.2
    have e1 : (cl.take d'.size) = cl := List.take_of_length_le (by omega)
    simpa [← hsz, e1] using this
  have hsorted : (d'.toList.map (·.t)).Pairwise (fun a b => bef b.f0 a.f0 = false) := by
    rw [List.pairwise_map, List.pairwise_iff_getElem]
    intro i j hi hj hij
    have := hs i j (Nat.zero_le _) hij (by simp at hj; omega)
    rw [ltT] at this
    have e1 : d'[i]! = d'.toList[i] := by simp at hi; simp [hi]
    have e2 : d'[j]! = d'.toList[j] := by simp at hj; simp [hj]
    rwa [e1, e2] at this
  have hT : d'.toList.map (·.t) = sortT (cl.map (·.t)) := sorted_eq (hperm.map _) hsorted ha
  refine ⟨rfl, ⟨h1, by have := size_sortWorldK_c encT 2 w1 g 0 n d' os; omega, by rw [(sortT_perm _).length_eq]; exact h3, d'.toList, hT, fun x hx => h5 x (hperm.mem_iff.1 hx), ?_⟩, below_sort h1 hb⟩
  have := holdsK_sortWorldK_c encT 2 w1 g 0 cl.toArray d' n os h6 h2 (by simp [hsz])
  simpa using this
end Go.Proofs.Ytmppdgjnibamlab.Pag
