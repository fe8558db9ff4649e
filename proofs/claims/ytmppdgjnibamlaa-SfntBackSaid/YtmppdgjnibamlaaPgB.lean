/- put of octets.Page. -/
import Derived.Test.YtmppdgjnibamlaaPgA
import Derived.Deep.RegionLaw
namespace Go.Proofs.Ytmppdgjnibamlaa.Pag
open Go.RowKit Go.Proofs.YtmppdgjnibamlaaW.PrintWords
set_option linter.unusedVariables false
set_option linter.unusedSimpArgs false

theorem infoB : (Try.prog.info? 5).map (fun i => (i.zero, i.size, i.bytes)) = some (some (.int .u8 0), 1, 1) := by kernel_rfl

/-- An append to the page's bytes, and the store into the page: what it leaves. -/
theorem app_done {w W w2 : World} {base g : Nat} {ok : Nat → Prop} {B Wt ys : List Int} {fl : Bool} {v1 v2 v' : Value}
    (hb : w.heap[g]? = some (.cells #[v1, v2, .bool fl] 28 (0, 0))) (h1 : base ≤ g) (h2 : ok g)
    (h3 : w.ownsRow base 5 1 v1 B.length (nums .u8 B)) (h4 : w.ownsRow base 3 1 v2 Wt.length (nums .i64 Wt))
    (h5 : ∀ k, v1.ownBlock = some k → ok k) (h6 : ∀ k, v2.ownBlock = some k → ok k)
    (hw : Below w.heap.size w W) (hown : w2.ownsRow base 5 1 v' (B ++ ys).length (nums .u8 (B ++ ys))) (hg : W.grownBy w2 v1.ownBlock)
    (hat : ∀ k, v'.ownBlock = some k → v1.ownBlock = some k ∨ w.heap.size ≤ k) :
    Pst base ok w (w2.setCell ⟨g, 0, none⟩ v') g (B ++ ys) Wt fl ∧ (∃ c, w2.cell? ⟨g, 0, none⟩ = some c) ∧ w2.frozen? ⟨g, 0, none⟩ = false := by
  have hbase : base ≤ w.heap.size := Nat.le_trans h1 (Nat.le_of_lt (blk_lt hb))
  have hn1 : some g ≠ v1.ownBlock := fun e => by
    obtain ⟨cs, hc⟩ := own_typed h3 g e.symm
    rw [hb] at hc; simp at hc
  have hn2 : v2.ownBlock ≠ some g := fun e => by
    obtain ⟨cs, hc⟩ := own_typed h4 g e
    rw [hb] at hc; simp at hc
  have hd : v2.ownBlock = none ∨ v2.ownBlock ≠ v1.ownBlock := own_type_ne h4 h3 (by decide)
  have hbW := (hw.block g (blk_lt hb)).trans hb
  have hb2 := blk_grown hbW hg hn1
  have hK : Kept w W ok := Kept.of_below hw _
  have hK2 : Kept w w2 ok := hK.of_grown hg fun k e => .inl (h5 k e)
  have hn3 : v'.ownBlock ≠ some g := fun e => by
    obtain ⟨cs, hc⟩ := own_typed hown g e
    rw [hb2] at hc; simp at hc
  have h4W : W.ownsRow base 3 1 v2 Wt.length (nums .i64 Wt) := own_move h4 fun k e => hw.block k (own_lt h4 k e)
  have h42 := own_other h4W hg hd
  refine ⟨⟨⟨v', v2, by simpa using blk_set hb2 0 v', h1, .inl h2, ?_, ?_, fun k e => (hat k e).imp (h5 k) id, fun k e => .inl (h6 k e)⟩, hK2.setCell (.inl h2) _,
    ((hw.mono hbase).grown hg (Nat.le_trans hbase hw.size) (own_base h3)).setCell h1 _⟩, ⟨_, (blk_cell hb2 0).trans rfl⟩, blk_frozen hb2 0⟩
  · exact own_move hown fun k e => Below.heap_setCell _ _ _ _ (fun e2 => hn3 (by rw [e]; simp [e2]))
  · exact own_move h42 fun k e => Below.heap_setCell _ _ _ _ (fun e2 => hn2 (by rw [e]; simp [e2]))
end Go.Proofs.Ytmppdgjnibamlaa.Pag
