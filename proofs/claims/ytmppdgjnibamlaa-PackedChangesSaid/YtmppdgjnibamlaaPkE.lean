/- packed.Changes: the contract. -/
import Derived.Test.YtmppdgjnibamlaaPkD
namespace Go.Proofs.Ytmppdgjnibamlaa.Pag
open Go.RowKit Go.Proofs.YtmppdgjnibamlaaW.PrintWords
set_option linter.unusedVariables false
set_option linter.unusedSimpArgs false

def encC (k : Int) (xs : List Int) : List Int := (64 * k + xs.length - 1) :: xs.flatMap (if k = 0 then b1 else if k = 1 then b2 else b0)
def inC (x : Int) : Bool := decide (-32768 ≤ x) && decide (x ≤ 32767)
def packed_Changes.f (l0 : List Int) : Option (List Int × Int) :=
  some (if l0.all inC = true ∧ l0.length ≤ 2000 then (packs kindOf 64 encC l0, 0) else ([], 1))

theorem encC_len (k : Int) (xs : List Int) : (encC k xs).length ≤ 1 + 2 * xs.length := by
  unfold encC
  have h := flat_len (if k = 0 then b1 else if k = 1 then b2 else b0) 2 (fun x => by split <;> (try split) <;> simp [b0, b1, b2]) xs
  rw [List.length_cons]
  omega
theorem packsC_len (r : List Int) : (packs kindOf 64 encC r).length ≤ 3 * r.length := packs_len (by omega) 2 encC_len r

abbrev pageObj : Obj := .cells #[.slice none 0 0, .slice none 0 0, .bool false] 28
abbrev boxObj (g : Nat) : Obj := .cells #[.pointer (some ⟨g, 0, none⟩)] 24
theorem Boxd.new (w : World) (base : Nat) (h : base ≤ w.heap.size) :
    Boxd w ((w.alloc pageObj).alloc (boxObj w.heap.size)) base (w.heap.size + 1) w.heap.size [] (.slice none 0 0) [] := by
  have e1 : (w.alloc pageObj).heap.size = w.heap.size + 1 := by show (w.heap.push _).size = _; simp
  have hb0 : ((w.alloc pageObj).alloc (boxObj w.heap.size)).heap[w.heap.size + 1]? = some (.cells #[.pointer (some ⟨w.heap.size, 0, none⟩)] 24 (0, 0)) := heap_alloc2_new w _ _
  have hp0 : ((w.alloc pageObj).alloc (boxObj w.heap.size)).heap[w.heap.size]? = some (.cells #[.slice none 0 0, .slice none 0 0, .bool false] 28 (0, 0)) := heap_alloc2_old w _ _
  refine ⟨fun k => k = w.heap.size, ⟨.slice none 0 0, .slice none 0 0, hp0, h, rfl, own_nil _ _ _ _, own_nil _ _ _ _, fun k hk => by simp [Value.ownBlock] at hk, fun k hk => by simp [Value.ownBlock] at hk⟩, hb0, by simp, by omega, own_nil _ _ _ _, fun k hk => by simp [Value.ownBlock] at hk, ?_⟩
  exact ((Below.refl base w).alloc h _).alloc (by rw [e1]; omega) _

theorem kindOf_cases (x : Int) : (kindOf x = 0 ∧ x ≠ 0 ∧ -128 ≤ x ∧ x ≤ 127) ∨ (kindOf x = 1 ∧ (x < -128 ∨ 127 < x)) ∨ (kindOf x = 2 ∧ x = 0) := by
  unfold kindOf
  split
  · omega
  · split <;> omega

theorem mem_take_rd {l : List Int} {n : Nat} {x : Int} (h : x ∈ l.take n) : ∃ i : Nat, i < n ∧ i < l.length ∧ x = rd l (i : Int) := by
  obtain ⟨i, hi, rfl⟩ := List.getElem_of_mem h
  rw [List.length_take] at hi
  exact ⟨i, by omega, by omega, by simp [rd, show i < l.length by omega]⟩

/-- What the literal does with a run. -/
theorem run1_calls {w0 : World} {base bx g : Nat} {v : Value} {zs : List Int} {w : World} {B : List Int} (h : Boxd w0 w base bx g B v zs) (r : List Int) (hin : r.all inC = true) (A : Option Addr) (c n : Nat) (hrow : ∀ W B', Boxd w0 W base bx g B' v zs → Kd.C (Kd.int .i64) W A n (r.take n)) (hc : n ≤ c)
    (hrun : Run kindOf 64 r n) (hB : B.length ≤ 100000) :
    Calls Try.prog 70 #[.int .i64 (kindOf (rd r 0)), .slice A n c, .pointer (some ⟨bx, 0, none⟩)] w fun e w' => e = .returned (.tuple #[]) ∧ Boxd w0 w' base bx g (B ++ encC (kindOf (rd r 0)) (r.take n)) v zs := by
  have hn := hrun.one
  have hlen : (r.take n).length = n := by rw [List.length_take]; have := hrun.len; omega
  have hlong := hrun.long
  have hk : ∀ x ∈ r.take n, kindOf x = kindOf (rd r 0) := fun x hx => by
    obtain ⟨i, hi, _, rfl⟩ := mem_take_rd hx
    exact hrun.alike i hi
  have hr : ∀ x ∈ r.take n, -32768 ≤ x ∧ x ≤ 32767 := fun x hx => by
    have := List.all_eq_true.1 hin x (List.mem_of_mem_take hx)
    simpa [inC] using this
  obtain ⟨xs, hxs⟩ : ∃ xs, r.take n = xs := ⟨_, rfl⟩
  rw [hxs] at hlen hk hr hrow ⊢
  subst hlen
  rcases kindOf_cases (rd r 0) with ⟨e, -⟩ | ⟨e, -⟩ | ⟨e, -⟩
  · rw [e] at hk ⊢
    have := changes0_calls h A c xs hrow hc ⟨hn, hlong⟩ hB (fun x hx => by have := kindOf_cases x; have := hk x hx; omega)
    simpa [encC] using this
  · rw [e] at hk ⊢
    have := changes1_calls h A c xs hrow hc ⟨hn, hlong⟩ hB (fun x hx => hr x hx)
    simpa [encC] using this
  · rw [e] at hk ⊢
    have := changes2_calls h A c xs hrow hc ⟨hn, hlong⟩ hB (fun x hx => by have := kindOf_cases x; have := hk x hx; omega)
    simpa [encC] using this

/-- runs, at Changes' own. -/
theorem runsC_box {w0 : World} {base bx g : Nat} {v : Value} {zs : List Int} {w : World} (h : Boxd w0 w base bx g [] v zs) (l : List Int) (hin : l.all inC = true) (hl : l.length ≤ 2000) (A : Option Addr) (c : Nat) (hrow : ∀ W B', Boxd w0 W base bx g B' v zs → Kd.C (Kd.int .i64) W A l.length l) (hc : l.length ≤ c) :
    Calls Try.prog 68 #[.slice A l.length c, .func (.func 69) #[] #[], .int .i64 64, .func (.func 70) #[] #[.pointer (some ⟨bx, 0, none⟩)]] w fun e w' => e = .returned (.tuple #[]) ∧ Boxd w0 w' base bx g (packs kindOf 64 encC l) v zs := by
  have hmax := packsC_len l
  refine (runsC_calls kindOf 64 (.pointer (some ⟨bx, 0, none⟩)) (fun r W => r.all inC = true ∧ ∃ B, B ++ packs kindOf 64 encC r = packs kindOf 64 encC l ∧ Boxd w0 W base bx g B v zs) A c l w hc (by omega) kind_calls ?_ ?_ ?_ ⟨hin, [], by simp, h⟩).mono ?_
  · rintro r W ⟨-, B, -, hb⟩
    exact hrow W B hb
  · rintro r W n ⟨h1, B, h2, hb⟩
    exact ⟨h1, B, h2, hb.drewN n⟩
  · rintro r A' c' n W ⟨h1, B, h2, hb⟩ hC hc' hrun
    have hBl : B.length ≤ 6000 := by
      have := congrArg List.length h2
      rw [List.length_append] at this
      omega
    refine (run1_calls hb r h1 A' c' n (fun W' B' hb' => hC W' (hrow W' B' hb')) hc' hrun (by omega)).mono fun e w' ⟨he, hb'⟩ => ⟨he, ?_, _, ?_, hb'⟩
    · rw [List.all_eq_true] at h1 ⊢
      exact fun x hx => h1 x (List.mem_of_mem_drop hx)
    · rw [List.append_assoc, ← packs_step (by omega) hrun]
      exact h2
  · rintro e w' ⟨he, -, B, hB, hb⟩
    rw [packs_nil, List.append_nil] at hB
    exact ⟨he, hB ▸ hb⟩
end Go.Proofs.Ytmppdgjnibamlaa.Pag
