/- Contracts of slices.Clone at bytes, and of All, PutBytes, Good, PutTag, Later of octets.Page. -/
import Derived.Test.YtmppdgjnibamlabPgD
import Derived.Test.YtmppdgjnibamlabPgE
import Derived.WalkSpells
import Derived.Lib.LazyBuf
namespace Go.Proofs.Ytmppdgjnibamlab.Pag
open Go.RowKit Go.Proofs.YtmppdgjnibamlabW.PrintWords
set_option linter.unusedVariables false
set_option linter.unusedSimpArgs false

/-- What came in, read as whole numbers. -/
theorem C_reads {k : IntKind} {w : World} {A : Option Addr} {n : Nat} {xs : List Int} (h : Kd.C (Kd.int k) w A n xs) : ReadsInt w k A n xs := by
  refine ⟨h.1, h.2.1, fun hn => ?_⟩
  obtain ⟨ad, e, hc⟩ := h.2.2 hn
  refine ⟨ad, e, fun j hj => ?_⟩
  have hj' : j < xs.length := by rw [h.1]; exact hj
  obtain ⟨c, _, hK, hcell⟩ := hc j (xs.getD j 0) (by simp [List.getElem?_eq_getElem hj', List.getD_eq_getElem?_getD])
  have hK' : c = [.int k (xs.getD j 0)] := hK
  subst hK'
  have := hcell 0 _ rfl
  simpa [show (Kd.int k).sz = 1 from rfl] using this
theorem reads_C {k : IntKind} {w : World} {A : Option Addr} {n : Nat} {xs : List Int} (h : ReadsInt w k A n xs) : Kd.C (Kd.int k) w A n xs := by
  refine ⟨h.1, h.2.1, fun hn => ?_⟩
  obtain ⟨ad, e, hc⟩ := h.2.2 hn
  refine ⟨ad, e, fun j p hj => ?_⟩
  have hj' : j < xs.length := (List.getElem?_eq_some_iff.1 hj).1
  refine ⟨[.int k p], rfl, rfl, fun i u hu => ?_⟩
  have hi : i = 0 := by
    have := (List.getElem?_eq_some_iff.1 hu).1
    simpa using this
  subst hi
  have hu' : u = .int k p := by simpa using hu.symm
  subst hu'
  have hp : xs.getD j 0 = p := by simp [List.getD_eq_getElem?_getD, hj]
  have := hc j (by rw [← h.1]; exact hj')
  rw [hp] at this
  simpa [show (Kd.int k).sz = 1 from rfl] using this
theorem own_R {k : IntKind} {w : World} {base e : Nat} {ok : Nat → Prop} {v : Value} {xs : List Int} (h : w.ownsRow base e 1 v xs.length (nums k xs)) (hok : ∀ j, v.ownBlock = some j → ok j) : Kd.R (Kd.int k) e w base ok v xs := by
  refine ⟨hok, nums k xs, h, by simp [nums, Kd.int, Kd.scalar], fun j p hj => ?_⟩
  show _ = [Value.int k p]
  have hj' := (List.getElem?_eq_some_iff.1 hj)
  obtain ⟨hlt, he⟩ := hj'
  simp [nums, Kd.int, Kd.scalar, List.take_one, List.head?_drop, List.getElem?_eq_getElem hlt, he]
theorem R_own1 {k : IntKind} {w : World} {base e : Nat} {ok : Nat → Prop} {v : Value} {xs : List Int} (h : Kd.R (Kd.int k) e w base ok v xs) : w.ownsRow base e 1 v xs.length (nums k xs) ∧ (∀ j, v.ownBlock = some j → ok j) := by
  obtain ⟨h0, inner, ho, hr⟩ := h
  refine ⟨?_, h0⟩
  have : inner = nums k xs := by
    have hl : inner.length = xs.length := by simpa [Kd.int, Kd.scalar] using hr.1
    apply List.ext_getElem
    · simp [nums, hl]
    · intro j h1 h2
      have hx : j < xs.length := by rw [← hl]; exact h1
      have := hr.2 j xs[j] (List.getElem?_eq_getElem hx)
      have h3 : (inner.drop (j * 1)).take 1 = [Value.int k xs[j]] := this
      simp [List.take_one, List.head?_drop, List.getElem?_eq_getElem h1] at h3
      simp [nums, h3]
  rw [← this]
  exact ho

def slices_Clone_byte_byte.f (l0 : List Int) : Option (List Int) := if l0.length ≤ 140737488355328 then some l0 else none

set_option maxHeartbeats 1000000 in
set_option maxRecDepth 100000 in
theorem slices_Clone_byte_byte.calls (A0 : Option Addr) (c0 : Nat) (l0 : List Int) (r : List Int) (w : World) (hr0 : Kd.C (Kd.int .u8) w A0 l0.length l0) (hc0 : l0.length ≤ c0) (h : slices_Clone_byte_byte.f l0 = some r) :
    Calls Try.prog 84 #[.slice A0 l0.length c0] w fun e w' => ∃ v0_ : Value, e = .returned (v0_) ∧ Kd.R (Kd.int .u8) 5 w' w.heap.size (fun _ => True) v0_ r ∧ Below w.heap.size w w' := by
  have hlen : l0.length ≤ 140737488355328 := by
    unfold slices_Clone_byte_byte.f at h
    split at h
    · assumption
    · cases h
  obtain rfl : l0 = r := by simpa [slices_Clone_byte_byte.f, hlen] using h
  have HL := Aside0.mk hlen
  have HR := Aside0.mk (C_reads hr0)
  clear hlen h hr0 hc0
  cases A0 with
  | none =>
    have HZ : Aside0 (l0 = []) := Aside0.mk <| by
      rcases Nat.eq_zero_or_pos l0.length with h0 | h0
      · exact List.eq_nil_of_length_eq_zero h0
      · obtain ⟨ad, h, _⟩ := HR.out.2.2 h0
        cases h
    have HE := Aside0.mk (Kd.R_nil (Kd.int .u8) 5 w w.heap.size (fun _ => True))
    have hq := fun (W : World) => Lib.run_eql_slice_nil W 26 5 none l0.length c0 0 0 Try.underlying26
    go_enter Try.func84, Try.ntmps84
    go_wp2
    go_ret
    exact ⟨_, rfl, by rw [HZ.out]; exact HE.out, Below.refl _ _⟩
  | some ad =>
    have hq := fun (W : World) => Lib.run_eql_slice_nil W 26 5 (some ad) l0.length c0 0 0 Try.underlying26
    go_enter Try.func84, Try.ntmps84
    go_wp2_with (at_builtin; refine print_append_row (w0 := w) w.heap.size rfl (.tmp 5) (.tmp 6) 26 5 .u8 1 rfl Try.underlying26 infoB (by decide) _ [] l0 (some ad) l0.length c0 rfl rfl (own_lit w w.heap.size 5 .u8 [] (Nat.le_refl _) (by simp)) (HR.out.below ((Below.refl _ _).alloc (Nat.le_refl _) _)) ((Below.refl _ _).alloc (Nat.le_refl _) _) (by simp) (by have := HL.out; simp; omega) ?_; intro v1 w1 hown hB hg hat; have HO := Aside0.mk hown; have HB := Aside0.mk hB; clear hown hB hg hat)
    go_ret
    exact ⟨_, rfl, own_R (by simpa using HO.out) (fun _ _ => trivial), HB.out⟩
end Go.Proofs.Ytmppdgjnibamlab.Pag
