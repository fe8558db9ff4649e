/- foundrylaw04.awake answers true. No condition. -/
import Derived.Test.YtmppdgjnibamlabPgH
import Derived.Test.YtmppdgjnibamlabPgJ
namespace Go.Proofs.Ytmppdgjnibamlab.Pag
open Go.RowKit Go.Proofs.YtmppdgjnibamlabW.PrintWords
set_option linter.unusedVariables false
set_option linter.unusedSimpArgs false

/-- A new page. -/
theorem Pg.new (W : World) (base : Nat) (h : base ≤ W.heap.size) :
    Pg (W.alloc (.cells #[.slice none 0 0, .slice none 0 0, .bool false] 79)) base (fun k => W.heap.size ≤ k) W.heap.size [] [] false :=
  ⟨.slice none 0 0, .slice none 0 0, by simpa using heap_alloc_new W _, h, Nat.le_refl _, own_nil _ _ _ _, own_nil _ _ _ _, fun k hk => by simp [Value.ownBlock] at hk, fun k hk => by simp [Value.ownBlock] at hk⟩

end Go.Proofs.Ytmppdgjnibamlab.Pag