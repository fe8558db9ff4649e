/- A page that has not failed, rows of whole numbers and blocks beside it, all of the call's own. -/
import Derived.Test.YtmppdgjnibamlabOlA
import Derived.Test.YtmppdgjnibamlabO4A
namespace Go.Proofs.Ytmppdgjnibamlab.Pag
open Go.RowKit Go.Proofs.YtmppdgjnibamlabW.PrintWords
set_option linter.unusedVariables false
set_option linter.unusedSimpArgs false

def Hp (w0 wr : World) (base g : Nat) (X : List Int) (rows : List (Value × List Int)) (blks : List (Nat × Obj)) : Prop :=
  ∃ ok, Pg wr base ok g X [] false ∧ Below base w0 wr ∧
    (∀ r ∈ rows, wr.ownsRow base 3 1 r.1 r.2.length (nums .i64 r.2) ∧ (∀ k, r.1.ownBlock = some k → ¬ ok k)) ∧
    rows.Pairwise (fun a b => ∀ k, a.1.ownBlock = some k → b.1.ownBlock ≠ some k) ∧
    (∀ p ∈ blks, wr.heap[p.1]? = some p.2 ∧ ¬ ok p.1 ∧ ∀ r ∈ rows, r.1.ownBlock ≠ some p.1)

section
variable {w0 wr w1 : World} {base g : Nat} {X X1 : List Int} {rows post : List (Value × List Int)} {blks : List (Nat × Obj)} {v : Value} {xs : List Int}
theorem Hp.base_le (h : Hp w0 wr base g X rows blks) : base ≤ wr.heap.size := by
  obtain ⟨ok, h1, -⟩ := h
  exact h1.base_le
theorem Hp.bel (h : Hp w0 wr base g X rows blks) : Below base w0 wr := by
  obtain ⟨ok, h1, h2, -⟩ := h
  exact h2
theorem Hp.blk (h : Hp w0 wr base g X rows blks) {p : Nat × Obj} (hp : p ∈ blks) : wr.heap[p.1]? = some p.2 := by
  obtain ⟨ok, h1, h2, h3, h4, h5⟩ := h
  exact (h5 p hp).1
theorem Hp.row (h : Hp w0 wr base g X rows blks) {r : Value × List Int} (hr : r ∈ rows) : wr.ownsRow base 3 1 r.1 r.2.length (nums .i64 r.2) := by
  obtain ⟨ok, h1, h2, h3, h4, h5⟩ := h
  exact (h3 r hr).1
theorem Hp.new (w : World) : Hp w (w.alloc (.cells #[.slice none 0 0, .slice none 0 0, .bool false] 79)) w.heap.size w.heap.size [] [] [] :=
  ⟨_, Pag.Pg.new w w.heap.size (Nat.le_refl _), below_alloc (Below.refl _ _) _, by simp, List.Pairwise.nil, by simp⟩
/-- A page that is new, in a world that differs from the first by what lies above its base. -/
theorem Hp.new2 {base : Nat} (hb : Below base w0 wr) (hl : base ≤ wr.heap.size) : Hp w0 (wr.alloc (.cells #[.slice none 0 0, .slice none 0 0, .bool false] 79)) base wr.heap.size [] [] [] :=
  ⟨_, Pag.Pg.new wr base hl, below_then hb hl (below_alloc (Below.refl _ _) _), by simp, List.Pairwise.nil, by simp⟩
theorem Hp.nil (h : Hp w0 wr base g X rows blks) : Hp w0 wr base g X ((.slice none 0 0, []) :: rows) blks := by
  obtain ⟨ok, h1, h2, h3, h4, h5⟩ := h
  refine ⟨ok, h1, h2, fun r hr => ?_, List.Pairwise.cons (fun r hr k hk => by simp [Value.ownBlock] at hk) h4, fun p hp => ⟨(h5 p hp).1, (h5 p hp).2.1, fun r hr => ?_⟩⟩
  · rcases List.mem_cons.1 hr with rfl | hr
    · exact ⟨own_nil _ _ _ _, fun k hk => by simp [Value.ownBlock] at hk⟩
    · exact h3 r hr
  · rcases List.mem_cons.1 hr with rfl | hr
    · simp [Value.ownBlock]
    · exact (h5 p hp).2.2 r hr
theorem Hp.perm {rows' : List (Value × List Int)} (h : Hp w0 wr base g X rows blks) (hp : rows.Perm rows') : Hp w0 wr base g X rows' blks := by
  obtain ⟨ok, h1, h2, h3, h4, h5⟩ := h
  refine ⟨ok, h1, h2, fun r hr => h3 r (hp.mem_iff.2 hr), (hp.pairwise_iff (fun {a b} hab k hk e => hab k e hk)).1 h4, fun p hq => ⟨(h5 p hq).1, (h5 p hq).2.1, fun r hr => (h5 p hq).2.2 r (hp.mem_iff.2 hr)⟩⟩
theorem Hp.sub {blks' : List (Nat × Obj)} (h : Hp w0 wr base g X rows blks) (hs : ∀ p ∈ blks', p ∈ blks) : Hp w0 wr base g X rows blks' := by
  obtain ⟨ok, h1, h2, h3, h4, h5⟩ := h
  exact ⟨ok, h1, h2, h3, h4, fun p hp => h5 p (hs p hp)⟩
theorem Hp.below (h : Hp w0 wr base g X rows blks) (hb : Below wr.heap.size wr w1) : Hp w0 w1 base g X rows blks := by
  have hbase := h.base_le
  obtain ⟨ok, h1, h2, h3, h4, h5⟩ := h
  refine ⟨ok, h1.below hb, below_then h2 hbase hb, fun r hr => ⟨pw_own_below (h3 r hr).1 hb, (h3 r hr).2⟩, h4, fun p hp => ⟨?_, (h5 p hp).2⟩⟩
  have h6 := (h5 p hp).1
  exact (hb.block p.1 (Array.getElem?_eq_some_iff.1 h6).1).trans h6
theorem Hp.drewN (h : Hp w0 wr base g X rows blks) (n : Nat) : Hp w0 (wr.drewN n) base g X rows blks := by
  obtain ⟨ok, h1, h2, h3, h4, h5⟩ := h
  exact ⟨ok, h1.drewN n, pw_below_drewN h2 n, h3, h4, h5⟩
theorem Hp.drew (h : Hp w0 wr base g X rows blks) : Hp w0 wr.drew base g X rows blks := h.drewN 1
theorem Hp.alloc (h : Hp w0 wr base g X rows blks) (o : Obj) : Hp w0 (wr.alloc o) base g X rows ((wr.heap.size, o) :: blks) := by
  have hbase := h.base_le
  obtain ⟨ok, h1, h2, h3, h4, h5⟩ := h
  have hb : Below wr.heap.size wr (wr.alloc o) := below_alloc (Below.refl _ _) o
  refine ⟨_, h1.bound.below hb, below_then h2 hbase hb, fun r hr => ⟨pw_own_below (h3 r hr).1 hb, fun k hk hok => (h3 r hr).2 k hk hok.1⟩, h4, fun p hp => ?_⟩
  rcases List.mem_cons.1 hp with rfl | hp
  · refine ⟨heap_alloc_new wr o, fun hk => ?_, fun r hr e => ?_⟩
    · have := hk.2.2
      simp only at this
      omega
    · have := own_lt (h3 r hr).1 _ e
      simp only at this
      omega
  · have h6 := (h5 p hp).1
    exact ⟨(hb.block p.1 (Array.getElem?_eq_some_iff.1 h6).1).trans h6, fun hk => (h5 p hp).2.1 hk.1, (h5 p hp).2.2⟩
/-- A store into a block of one's own. -/
theorem Hp.set {b : Nat} {cs : Array Value} {t : TypeId} (h : Hp w0 wr base g X rows ((b, .cells cs t) :: blks)) (hb : base ≤ b) (hd : ∀ p ∈ blks, p.1 ≠ b) (j : Nat) (u : Value) :
    Hp w0 (wr.setCell ⟨b, j, none⟩ u) base g X rows ((b, .cells (cs.setIfInBounds j u) t) :: blks) := by
  obtain ⟨ok, h1, h2, h3, h4, h5⟩ := h
  have hB := h5 _ (List.mem_cons_self)
  have hoff : ∀ k, k ≠ b → (wr.setCell ⟨b, j, none⟩ u).heap[k]? = wr.heap[k]? := fun k hk => Below.heap_setCell _ _ _ _ hk
  refine ⟨ok, h1.move fun k hk _ => hoff k (fun e => hB.2.1 (e ▸ hk)), h2.setCell hb _, fun r hr => ⟨own_move (h3 r hr).1 fun k e => hoff k (fun e2 => hB.2.2 r hr (by rw [e, e2])), (h3 r hr).2⟩, h4, fun p hp => ?_⟩
  rcases List.mem_cons.1 hp with rfl | hp
  · exact ⟨by simpa using blk_set hB.1 j u, hB.2⟩
  · exact ⟨(hoff p.1 (hd p hp)).trans (h5 p (List.mem_cons_of_mem _ hp)).1, (h5 p (List.mem_cons_of_mem _ hp)).2⟩
/-- An append to the first row. -/
theorem Hp.app (h : Hp w0 wr base g X ((v, xs) :: post) blks) {v1 : Value} {zs : List Int} (ho : w1.ownsRow base 3 1 v1 zs.length (nums .i64 zs)) (hB : Below base w0 w1) (hg : wr.grownBy w1 v.ownBlock)
    (hat : v1.ownBlock = v.ownBlock ∨ ∃ b, v1.ownBlock = some b ∧ wr.heap.size ≤ b) : Hp w0 w1 base g X ((v1, zs) :: post) blks := by
  obtain ⟨ok, h1, h2, h3, h4, h5⟩ := h
  have hv := h3 _ (List.mem_cons_self)
  rw [List.pairwise_cons] at h4
  have hnew : ∀ k, v1.ownBlock = some k → v.ownBlock = some k ∨ wr.heap.size ≤ k := fun k e => by
    rcases hat with hat | ⟨b, hat, hle⟩
    · exact .inl (hat ▸ e)
    · rw [hat] at e
      have : b = k := by simpa using e
      exact .inr (by omega)
  refine ⟨_, h1.bound.grown hg (fun k hk e => hv.2 k e.symm hk.1), hB, fun r hr => ?_, List.Pairwise.cons (fun r hr k e e2 => ?_) h4.2, fun p hp => ⟨?_, fun hk => (h5 p hp).2.1 hk.1, fun r hr e => ?_⟩⟩
  · rcases List.mem_cons.1 hr with rfl | hr
    · refine ⟨ho, fun k e hk => ?_⟩
      rcases hnew k e with h6 | h6
      · exact hv.2 k h6 hk.1
      · omega
    · exact ⟨own_move (h3 r (List.mem_cons_of_mem _ hr)).1 fun k e => hg.block k (own_lt (h3 r (List.mem_cons_of_mem _ hr)).1 k e) (fun e2 => h4.1 r hr k e2.symm e), fun k e hk => (h3 r (List.mem_cons_of_mem _ hr)).2 k e hk.1⟩
  · rcases hnew k e with h6 | h6
    · exact h4.1 r hr k h6 e2
    · have := own_lt (h3 r (List.mem_cons_of_mem _ hr)).1 k e2
      omega
  · have h6 := (h5 p hp).1
    exact (hg.block p.1 (Array.getElem?_eq_some_iff.1 h6).1 (fun e => (h5 p hp).2.2 _ (List.mem_cons_self) e.symm)).trans h6
  · have h6 := (Array.getElem?_eq_some_iff.1 (h5 p hp).1).1
    rcases List.mem_cons.1 hr with rfl | hr
    · rcases hnew p.1 e with h7 | h7
      · exact (h5 p hp).2.2 _ (List.mem_cons_self) h7
      · omega
    · exact (h5 p hp).2.2 r (List.mem_cons_of_mem _ hr) e
/-- A call on the page. -/
theorem Hp.call (h : Hp w0 wr base g X rows blks) {n : Nat} {args : Array Value} {E : Ending} (hc : ∀ ok, Pg wr base ok g X [] false → Calls Try.prog n args wr fun e w' => e = E ∧ Pst base ok wr w' g X1 [] false) :
    Calls Try.prog n args wr fun e w' => e = E ∧ Hp w0 w' base g X1 rows blks := by
  obtain ⟨ok, h1, h2, h3, h4, h5⟩ := h
  refine (hc ok h1).mono fun e w' ⟨he, hP⟩ => ⟨he, ⟨_, hP.pg, h2.trans hP.below, fun r hr => ⟨own_move (h3 r hr).1 fun k e => hP.kept.2 k (own_lt (h3 r hr).1 k e) ((h3 r hr).2 k e), fun k e hk => ?_⟩, h4, fun p hp => ?_⟩⟩
  · rcases hk with hk | hk
    · exact (h3 r hr).2 k e hk
    · have := own_lt (h3 r hr).1 k e
      omega
  · have h6 := (h5 p hp).1
    have h7 := (Array.getElem?_eq_some_iff.1 h6).1
    refine ⟨(hP.kept.2 p.1 h7 (h5 p hp).2.1).trans h6, fun hk => ?_, (h5 p hp).2.2⟩
    rcases hk with hk | hk
    · exact (h5 p hp).2.1 hk
    · omega
theorem Hp.put16 (h : Hp w0 wr base g X rows blks) (x : Int) (hl : X.length ≤ 1000000) (h0 : -32768 ≤ x) (h1 : x ≤ 65535) : Calls Try.prog 47 #[.pointer (some ⟨g, 0, none⟩), .int .i64 x] wr fun e w' => e = .returned (.tuple #[]) ∧ Hp w0 w' base g (X ++ be x 2) rows blks := by
  refine h.call fun ok hp => ?_
  have ho : over false X = false := by simp [over]; omega
  have := Put16_calls hp x
  rw [show putB false X x 2 = X ++ be x 2 by unfold putB; rw [if_neg (by simp [ho]), if_neg (by omega)], show putF false X x 2 = false by unfold putF; rw [if_neg (by simp [ho]), if_neg (by omega)]] at this
  exact this
theorem Hp.put8 (h : Hp w0 wr base g X rows blks) (x : Int) (hl : X.length ≤ 1000000) (h0 : -128 ≤ x) (h1 : x ≤ 255) : Calls Try.prog 52 #[.pointer (some ⟨g, 0, none⟩), .int .i64 x] wr fun e w' => e = .returned (.tuple #[]) ∧ Hp w0 w' base g (X ++ be x 1) rows blks := by
  refine h.call fun ok hp => ?_
  have ho : over false X = false := by simp [over]; omega
  have := Put8_calls hp x
  rw [show putB false X x 1 = X ++ be x 1 by unfold putB; rw [if_neg (by simp [ho]), if_neg (by omega)], show putF false X x 1 = false by unfold putF; rw [if_neg (by simp [ho]), if_neg (by omega)]] at this
  exact this
theorem Hp.all (h : Hp w0 wr base g X rows blks) (hl : X.length ≤ 1000000) : Calls Try.prog 48 #[.pointer (some ⟨g, 0, none⟩)] wr fun e w' => ∃ v, e = .returned (.tuple #[v, .int .i64 0]) ∧ Kd.R (Kd.int .u8) 5 w' wr.heap.size (fun _ => True) v X ∧ Below wr.heap.size wr w' := by
  obtain ⟨ok, h1, -⟩ := h
  have := All_calls h1
  rw [show allB false X [] = X by unfold allB; simp; omega, show allE false X [] = 0 by unfold allE; simp; omega] at this
  exact this
/-- append(row, y) as one step of a region that draws its order. -/
theorem Hp.step {ops : Array Oper} {o : Oper} {a : Act} {K : Act → World → Prop} {Q : Exit → Act → World → Prop} {E : Prop} {W : World}
    (hgd : o.guard = none) (s x : Operand) (ho : o.op = .call { callee := .builtin .append, args := #[s, x], argTypes := #[48, 48] })
    (hH : Hp w0 W base g X rows blks) (v : Value) (xs : List Int) (post : List (Value × List Int)) (hrows : rows.Perm ((v, xs) :: post)) (hs : a.eval s = v)
    (b : Nat) (y : Int) (hx : a.eval x = .slice (some ⟨b, 0, none⟩) 1 1) (hb : (b, .cells #[.int .i64 y] 3) ∈ blks) (hlen : xs.length ≤ 1000000)
    (h : ∀ v' w2, Hp w0 w2 base g X ((v', xs ++ [y]) :: post) blks → K (a.put o.dst v') w2) :
    if Region.wanted o (yielded ops a.tmps) = true then Oper.wp Try.prog o a W K Q else E := by
  obtain ⟨i0, hi, hz0, hz1, hz2⟩ := info_parts infoI
  have hH' := hH.perm hrows
  have hbase := hH'.base_le
  have hrow := hH'.row (r := (v, xs)) (List.mem_cons_self)
  have hblk : W.heap[b]? = some (.cells #[.int .i64 y] 3) := hH'.blk hb
  refine step_append_lies W hgd s x 48 ho base 3 i0 (.int .i64 0) 1 8 Try.underlying48 hi hz0 hz1 hz2 rfl (by decide) v xs.length (nums .i64 xs) hs hrow ⟨b, 0, none⟩ 1 1 (nums .i64 [y]) hx (by simp [nums]) (fun j u hj => ?_)
    (by intro u hu; simp only [nums, List.mem_map] at hu; obtain ⟨q, _, rfl⟩ := hu; rfl) (by omega) (by simp only [maxLen]; omega) (by omega) hbase W.heap.size rfl ?_
  · exact World.news_of_block hblk j u (by simpa [nums] using hj)
  · intro gg cap w2 hown hgrow hat hlt
    have hg : W.grownBy w2 v.ownBlock := hgrow
    refine h _ w2 (hH'.app (zs := xs ++ [y]) (by rw [List.length_append, nums_append]; exact hown) (hH'.bel.grown hg hbase (own_base hrow)) hg ?_)
    rcases hat with hat | hat
    · exact .inl hat.symm
    · exact .inr ⟨gg, rfl, by omega⟩
end
end Go.Proofs.Ytmppdgjnibamlab.Pag
