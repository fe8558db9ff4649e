/- slices.Sorted(maps.Keys(m)) at a map of numbers that the call has made: the numbers, each once, rising. -/
import Derived.Test.YtmppdgjnibamlabFeD
import Derived.Test.YtmppdgjnibamlabFeB
import Derived.Lib.SlKeysI
import Derived.Maps.Own
import Derived.Maps.Views
import Derived.Maps.Ext
import Derived.Maps.OwnSet
namespace Go.Proofs.Ytmppdgjnibamlab.Pag
open Go.RowKit Go.Maps Go.Shelf Go.Sort Go.Proofs.Ytmppdgjnibamlab.PFe Go.Proofs.YtmppdgjnibamlabW.PrintWords
set_option linter.unusedVariables false
set_option linter.unusedSimpArgs false

theorem keyedI : Keyed Try.prog 3 := int_keyed Try.underlying3
def keyL (x : Int) : Lit := .int .i64 x
def Dk (ks : List Int) : DataW Unit := setOf (.lit (.bool true)) (ks.map keyL)
theorem Dk_snoc (ks : List Int) (x : Int) : Dk (ks ++ [x]) = (Dk ks).put (keyL x) (.lit (.bool true)) := by
  unfold Dk
  rw [List.map_append]
  exact setOf_snoc _ _ _
theorem keyL_isKey (x : Int) : WideAt.IsKeyLit (keyL x) := by unfold keyL; trivial
theorem sameKey_keyL (x y : Int) : (keyL x).sameKey (keyL y) = decide (x = y) := by
  unfold keyL
  simp [Lit.sameKey]
theorem has_Dk (ks : List Int) (x : Int) : has (Dk ks) (keyL x) = decide (x ∈ ks) := by
  unfold Dk
  rw [has_setOf _ _ _ (by
    intro l hl
    obtain ⟨y, _, rfl⟩ := List.mem_map.1 hl
    exact keyL_isKey y)]
  rw [Bool.eq_iff_iff, List.any_eq_true, decide_eq_true_iff]
  constructor
  · rintro ⟨l, hl, h⟩
    obtain ⟨y, hy, rfl⟩ := List.mem_map.1 hl
    rw [sameKey_keyL] at h
    obtain rfl := of_decide_eq_true h
    exact hy
  · intro h
    exact ⟨keyL x, List.mem_map.2 ⟨x, h, rfl⟩, by rw [sameKey_keyL]; simp⟩

theorem sortU_keys {w : World} {b n : Nat} {ks ss : List Int} (hown : w.ownsMap Try.prog 3 (plainElem Try.prog 4) b n (Dk ks)) (hp : ss.Perm (intKeys (Dk ks))) : ss.mergeSort (fun x y => decide (x ≤ y)) = sortU ks := by
  obtain ⟨es, he, hpw⟩ := hown.tidy keyedI
  have hk : ∀ p ∈ es, ∃ x, p.1 = .int .i64 x := by
    intro p hp
    have h1 : has (Dk ks) p.1 = true := by
      rw [he, has_eq, List.any_eq_true]
      refine ⟨p, hp, ?_⟩
      have hc := hown.canon keyedI
      obtain ⟨es', he', _, hkl⟩ := hc
      have e2 : es = es' := by rw [he] at he'; exact DataW.map.inj he'
      subst e2
      exact WideAt.sameKey_self (hkl p hp)
    unfold Dk at h1
    rw [has_setOf _ _ _ (by
      intro l hl
      obtain ⟨y, _, rfl⟩ := List.mem_map.1 hl
      exact keyL_isKey y), List.any_eq_true] at h1
    obtain ⟨l, hl, h⟩ := h1
    obtain ⟨y, hy, rfl⟩ := List.mem_map.1 hl
    refine ⟨y, ?_⟩
    exact (Classical.byContradiction fun hne => by
      have := sameKey_ne (a := keyL y) (b := p.1) (fun e => hne e.symm)
      rw [this] at h
      exact absurd h (by simp))
  have hnd : (intKeys (Dk ks)).Nodup ∧ ∀ x, x ∈ intKeys (Dk ks) ↔ x ∈ ks := by
    have h2 := perm_intKeys (H := Unit) hpw hk (ss := dedupI ks) (nodup_dedupI ks) (fun x => by rw [mem_dedupI, ← he]; have := has_Dk ks x; unfold keyL at this; rw [this]; simp)
    rw [← he] at h2
    exact ⟨h2.nodup_iff.1 (nodup_dedupI ks), fun x => by rw [← h2.mem_iff, mem_dedupI]⟩
  exact sortU_of (hp.nodup_iff.2 hnd.1) (fun x => by rw [hp.mem_iff]; exact hnd.2 x)

theorem sorts107 (m : Nat) : AnyZI.SortsIn Try.prog Try.sortedA_ren Fence.wide m :=
  ⟨fun blk off cap ss W hH hblk hsz => callsIn_wide.2 (AnyM.slices_Sort_int Try.sortA blk off cap ss W hH hblk hsz),
   fun p cap W => callsIn_wide.2 (AnyM.slices_Sort_int_none Try.sortA p cap W)⟩

theorem keysOf_calls (mb : Option Nat) (W : World) : Calls Try.prog 70 #[.map mb] W fun e w' => e = .returned (.func (.func 108) #[] #[.pointer (some ⟨W.heap.size, 0, none⟩)]) ∧ w' = W.alloc (.cells #[.map mb] 107) :=
  callsIn_wide.1 (AnyZI.keys_in Try.keysA Fence.wide 5 trivial rfl mb W)

theorem sorted_calls {w : World} {b n : Nat} {ks : List Int} (hown : w.ownsMap Try.prog 3 (plainElem Try.prog 4) b n (Dk ks)) (hn : n ≤ 1000000000000) :
    Calls Try.prog 69 #[.func (.func 108) #[] #[.pointer (some ⟨w.heap.size, 0, none⟩)]] (w.alloc (.cells #[.map (some b)] 107)) fun e w' => ∃ v, e = .returned v ∧ Kd.R (Kd.int .i64) 3 w' w.heap.size (fun _ => True) v (sortU ks) ∧ Below w.heap.size w w' := by
  have hbl := hown.lt
  have hsz := hown.size_le
  have hseq : SeqGives Fence.wide 2 Try.prog 108 #[.pointer (some ⟨w.heap.size, 0, none⟩)] encZ (fun ss => ss.Perm (intKeys (Dk ks))) (Maps.size (Dk ks)) (w.alloc (.cells #[.map (some b)] 107)) :=
    AnyZI.keys_gives (ρ := Try.keysA_ren) { Try.keysA with } Fence.wide _ trivial rfl (by omega) w.heap.size b n (Dk ks) _ (by simp) (by simp) (by
      obtain ⟨es, clock, hb, Ft, hs, hD⟩ := hown
      exact ⟨es, clock, (Below.heap_alloc _ _ b hbl).trans hb, Ft, hs, hD⟩)
  have cS := AnyZI.sorted_in Try.sortedA Fence.wide 5 trivial trivial trivial trivial rfl (by omega) (sorts107 _) (enters_of Try.func107 (by kernel_rfl) rfl) 108 #[.pointer (some ⟨w.heap.size, 0, none⟩)] trivial (enters_of Try.func108 (by kernel_rfl) rfl) _ _ (by simp only [maxLen]; omega) (by omega) _ hseq
  change CallsIn _ _ Try.prog 69 _ _ _ at cS
  refine (callsIn_wide.1 cS).mono ?_
  rintro e w' ⟨v, ss, rfl, hS, hrow, -, hb⟩
  have hrow2 := sortU_keys hown hS
  rw [hrow2] at hrow
  have hl : ss.length = (sortU ks).length := by rw [← hrow2, List.length_mergeSort]
  rw [hl] at hrow
  refine ⟨v, rfl, own_R (own_weaken hrow (by simp)) (fun _ _ => trivial), ?_⟩
  exact ((Below.refl _ w).alloc (Nat.le_refl _) _).trans (hb.mono (by simp))
end Go.Proofs.Ytmppdgjnibamlab.Pag
