/- Appends to a page's bytes and to its waiting places, at a plain region's operation. -/
import Derived.Test.YtmppdgjnibamlabPgC
import Derived.Lib.AppendStr
namespace Go.Proofs.Ytmppdgjnibamlab.Pag
open Go.RowKit Go.Proofs.YtmppdgjnibamlabW.PrintWords
set_option linter.unusedVariables false
set_option linter.unusedSimpArgs false

/-- A block that is known whole, read as numbers. -/
theorem reads_block {w : World} {b : Nat} {k : IntKind} {ys : List Int} {t : TypeId} (hb : w.heap[b]? = some (.cells (nums k ys).toArray t (0, 0))) (hl : ys.length ≤ 9223372036854775807) : ReadsInt w k (some ⟨b, 0, none⟩) ys.length ys := by
  refine ⟨rfl, hl, fun _ => ⟨_, rfl, fun j hj => ?_⟩⟩
  have h := World.news_of_block hb j (.int k (ys.getD j 0)) (by simp [nums, List.getElem?_eq_getElem hj, List.getD_eq_getElem?_getD])
  exact h

section
variable {ops : Array Oper} {rest : List Oper} {o : Oper} {a : Act} {Q : Exit → Act → World → Prop} {w w1 W : World} {base g : Nat} {ok : Nat → Prop} {B Wt : List Int} {fl : Bool} {v1 v2 : Value}

/-- append(p.b, ys...), ys read, nil let in. -/
theorem pg_row (hgd : o.guard = none) (s x : Operand) (ho : o.op = .call { callee := .builtin .append, args := #[s, x], argTypes := #[26, 26] })
    (hP : Pst base ok w w1 g B Wt fl) (hc : w1.cell? ⟨g, 0, none⟩ = some v1) (hs : a.eval s = v1)
    (A : Option Addr) (m c : Nat) (ys : List Int) (hx : a.eval x = .slice A m c) (hw : Below w1.heap.size w1 W) (HR : ReadsInt W .u8 A m ys) (hlen : B.length + m ≤ 140737488355328)
    (h : ∀ A' c' w2 cc, Pst base ok w (w2.setCell ⟨g, 0, none⟩ (.slice A' (B.length + m) c')) g (B ++ ys) Wt fl → w2.cell? ⟨g, 0, none⟩ = some cc → w2.frozen? ⟨g, 0, none⟩ = false →
      wpList Try.prog ops Q rest (a.put o.dst (.slice A' (B.length + m) c')) w2) : wpList Try.prog ops Q (o :: rest) a W := by
  obtain ⟨u1, u2, hb, h1, h2, h3, h4, h5, h6⟩ := hP.pg
  have e : u1 = v1 := by
    have := (blk_cell hb 0).symm.trans hc
    simpa using this
  subst e
  have hbase : base ≤ w1.heap.size := Nat.le_trans h1 (Nat.le_of_lt (blk_lt hb))
  have h3W : W.ownsRow base 5 1 u1 B.length (nums .u8 B) := own_move h3 fun k e => hw.block k (own_lt h3 k e)
  refine print_append_row (w0 := W) base hgd s x 26 5 .u8 1 ho Try.underlying26 infoB (by decide) u1 B ys A m c hs hx h3W HR (Below.refl _ _) (Nat.le_trans hbase hw.size) (by omega) ?_
  intro v' w2 hown _ hgrow hat
  obtain ⟨A', c', rfl⟩ := own_slice hown
  have R := app_now hP hc hw hown hgrow (fun k hk => by
    rcases hat with hat | ⟨b, hat, hlb⟩
    · exact .inl (hat ▸ hk)
    · rw [hat] at hk
      have : b = k := by simpa using hk
      exact .inr (by have := hw.size; omega))
  obtain ⟨cc, hcc⟩ := R.2.1
  have hlm : (B ++ ys).length = B.length + m := by rw [List.length_append, HR.1]
  rw [hlm] at R ⊢
  exact h A' c' w2 cc R.1 hcc R.2.2

set_option maxRecDepth 100000 in
theorem str_at {P : Program} (w : World) (base : Nat) (t u ty e : TypeId) (i : TypeInfo) (ht : P.underlying t = some (.slice e)) (hu : P.underlying u = some .string) (hi : P.info? e = some i) (hz : i.zero = some (.int .u8 0))
    (hsize : i.size = 1) (hby : i.bytes = 1)
    (v : Value) (n : Nat) (xs : List Value) (hown : w.ownsRow base e 1 v n xs) (s : ByteArray)
    (h63 : n + s.size ≤ maxLen) (hbytes : n + s.size ≤ 140737488355328) (hbase : base ≤ w.heap.size) :
    ∃ v' w', (Builtin.append_ #[t, u] ty #[v, .string s]).run P w = .ok v' w' ∧ w'.ownsRow base e 1 v' (n + s.size) (xs ++ Lib.strCells s) ∧ w.grownBy w' v.ownBlock ∧ (∀ k, v'.ownBlock = some k → v.ownBlock = some k ∨ w.heap.size ≤ k) := by
  obtain ⟨v', w', hr, h2, h3, h4⟩ := Lib.run_append_own_string (P := P) w base t u ty e i ht hu hi hz hsize hby v n xs hown s h63 hbytes hbase
  refine ⟨v', w', hr, h2, h3, ?_⟩
  have hsmall : n + s.size ≤ 9223372036854775807 := by simp only [maxLen] at h63; omega
  have hxl : xs.length = n := by simpa using hown.1
  rcases hown.2 with ⟨rfl, rfl⟩ | ⟨g, cap, cur, rfl, hbg, hg, hnc, hcm, hcs, htake⟩
  · by_cases hm : s.size = 0
    · intro k hk
      rw [h4.2 ⟨rfl, hm⟩] at hk
      simp [Value.ownBlock] at hk
    · have hr2 := run_append_nil_string (P := P) w t u ty e i (.int .u8 0) ht hu hi hz s (by omega) (by omega) (by rw [hby]; omega)
      rw [hr] at hr2
      injection hr2 with e1 e2
      intro k hk
      rw [e1] at hk
      exact .inr (by simp [Value.ownBlock] at hk; omega)
  · by_cases hroom : n + s.size ≤ cap
    · have hcs' : cur.size = cap := by simpa using hcs
      have hr2 := Lib.run_append_room_string (P := P) w t u ty e i ht hu hi hsize g n cap cur hg s hroom (by omega)
      rw [hr] at hr2
      injection hr2 with e1 e2
      intro k hk
      rw [e1] at hk
      exact .inl hk
    · have holds : ∀ j u, xs[j]? = some u → w.cell? ((⟨g, 0, none⟩ : Addr).add j) = some u := hown.cells (g := g) rfl
      have hr2 := Lib.run_append_grow_string (P := P) w t u ty e i (.int .u8 0) ht hu hi hz ⟨g, 0, none⟩ n cap xs (by rw [hsize]; simpa using hxl) holds s (by omega) (by omega) (by rw [hby]; exact growslice_fits (by omega) (by omega))
      rw [hr] at hr2
      injection hr2 with e1 e2
      intro k hk
      rw [e1] at hk
      exact .inr (by simp [Value.ownBlock] at hk; omega)

set_option maxRecDepth 100000 in
/-- append(p.b, s...), s a string. -/
theorem pg_str (hgd : o.guard = none) (s x : Operand) (ho : o.op = .call { callee := .builtin .append, args := #[s, x], argTypes := #[26, 9] })
    (hP : Pst base ok w w1 g B Wt fl) (hc : w1.cell? ⟨g, 0, none⟩ = some v1) (hs : a.eval s = v1)
    (y : ByteArray) (hx : a.eval x = .string y) (hlen : B.length + y.size ≤ 140737488355328)
    (h : ∀ A' c' w2 cc, Pst base ok w (w2.setCell ⟨g, 0, none⟩ (.slice A' (B.length + y.size) c')) g (B ++ bytesOf y) Wt fl → w2.cell? ⟨g, 0, none⟩ = some cc → w2.frozen? ⟨g, 0, none⟩ = false →
      wpList Try.prog ops Q rest (a.put o.dst (.slice A' (B.length + y.size) c')) w2) : wpList Try.prog ops Q (o :: rest) a w1 := by
  obtain ⟨i0, hi, hz0, hz1, hz2⟩ := info_parts infoB
  obtain ⟨u1, u2, hb, h1, h2, h3, h4, h5, h6⟩ := hP.pg
  have e : u1 = v1 := by
    have := (blk_cell hb 0).symm.trans hc
    simpa using this
  subst e
  have hbase : base ≤ w1.heap.size := Nat.le_trans h1 (Nat.le_of_lt (blk_lt hb))
  obtain ⟨v', w2, hr, hown, hgrow, hat⟩ := str_at (P := Try.prog) w1 base 26 9 o.type 5 i0 Try.underlying26 Try.underlying9 hi hz0 hz1 hz2 u1 B.length (nums .u8 B) h3 y (by simp only [maxLen]; omega) hlen hbase
  have hl2 : (B ++ bytesOf y).length = B.length + y.size := by rw [List.length_append, bytesOf_length]
  have hcc2 : nums .u8 (B ++ bytesOf y) = nums .u8 B ++ Lib.strCells y := by
    rw [nums_append]
    congr 1
    simp [nums, bytesOf, Lib.strCells]
  rw [← hl2, ← hcc2] at hown
  obtain ⟨A', c', rfl⟩ := own_slice hown
  have R := app_now hP hc (Below.refl _ _) hown hgrow hat
  obtain ⟨cc, hcc⟩ := R.2.1
  rw [hl2] at R hr
  refine wpList_plain hgd fun K hK => ?_
  unfold Oper.wp execOp
  simp only [ho, resolve, invoke, builtin, Sem.run_bind, Sem.run_pure, Result.andThen_ok, List.map_toArray, List.map_cons, List.map_nil, hs, hx, hr]
  exact hK _ _ (h A' c' w2 cc R.1 hcc R.2.2)

theorem infoI : (Try.prog.info? 3).map (fun i => (i.zero, i.size, i.bytes)) = some (some (.int .i64 0), 1, 8) := by kernel_rfl

theorem wait_done {w W w2 : World} {base g : Nat} {ok : Nat → Prop} {B Wt Wt' : List Int} {fl : Bool} {v1 v2 v' : Value}
    (hb : w.heap[g]? = some (.cells #[v1, v2, .bool fl] 79 (0, 0))) (h1 : base ≤ g) (h2 : ok g)
    (h3 : w.ownsRow base 5 1 v1 B.length (nums .u8 B)) (h4 : w.ownsRow base 3 1 v2 Wt.length (nums .i64 Wt))
    (h5 : ∀ k, v1.ownBlock = some k → ok k) (h6 : ∀ k, v2.ownBlock = some k → ok k)
    (hw : Below w.heap.size w W) (hown : w2.ownsRow base 3 1 v' Wt'.length (nums .i64 Wt')) (hg : W.grownBy w2 v2.ownBlock)
    (hat : ∀ k, v'.ownBlock = some k → v2.ownBlock = some k ∨ w.heap.size ≤ k) :
    Pst base ok w (w2.setCell ⟨g, 1, none⟩ v') g B Wt' fl ∧ (∃ c, w2.cell? ⟨g, 1, none⟩ = some c) ∧ w2.frozen? ⟨g, 1, none⟩ = false := by
  have hbase : base ≤ w.heap.size := Nat.le_trans h1 (Nat.le_of_lt (blk_lt hb))
  have hn1 : v1.ownBlock ≠ some g := fun e => by
    obtain ⟨cs, hc⟩ := own_typed h3 g e
    rw [hb] at hc; simp at hc
  have hn2 : some g ≠ v2.ownBlock := fun e => by
    obtain ⟨cs, hc⟩ := own_typed h4 g e.symm
    rw [hb] at hc; simp at hc
  have hd : v1.ownBlock = none ∨ v1.ownBlock ≠ v2.ownBlock := own_type_ne h3 h4 (by decide)
  have hbW := (hw.block g (blk_lt hb)).trans hb
  have hb2 := blk_grown hbW hg hn2
  have hK : Kept w W ok := Kept.of_below hw _
  have hK2 : Kept w w2 ok := hK.of_grown hg fun k e => .inl (h6 k e)
  have hn3 : v'.ownBlock ≠ some g := fun e => by
    obtain ⟨cs, hc⟩ := own_typed hown g e
    rw [hb2] at hc; simp at hc
  have h3W : W.ownsRow base 5 1 v1 B.length (nums .u8 B) := own_move h3 fun k e => hw.block k (own_lt h3 k e)
  have h32 := own_other h3W hg hd
  refine ⟨⟨⟨v1, v', by simpa using blk_set hb2 1 v', h1, .inl h2, ?_, ?_, fun k e => .inl (h5 k e), fun k e => (hat k e).imp (h6 k) id⟩, hK2.setCell (.inl h2) _,
    ((hw.mono hbase).grown hg (Nat.le_trans hbase hw.size) (own_base h4)).setCell h1 _⟩, ⟨_, (blk_cell hb2 1).trans rfl⟩, blk_frozen hb2 1⟩
  · exact own_move h32 fun k e => Below.heap_setCell _ _ _ _ (fun e2 => hn1 (by rw [e]; simp [e2]))
  · exact own_move hown fun k e => Below.heap_setCell _ _ _ _ (fun e2 => hn3 (by rw [e]; simp [e2]))

theorem wait_now {w w1 W w2 : World} {base g : Nat} {ok : Nat → Prop} {B Wt Wt' : List Int} {fl : Bool} {v2 v' : Value}
    (h : Pst base ok w w1 g B Wt fl) (hc : w1.cell? ⟨g, 1, none⟩ = some v2)
    (hw : Below w1.heap.size w1 W) (hown : w2.ownsRow base 3 1 v' Wt'.length (nums .i64 Wt')) (hg : W.grownBy w2 v2.ownBlock)
    (hat : ∀ k, v'.ownBlock = some k → v2.ownBlock = some k ∨ w1.heap.size ≤ k) :
    Pst base ok w (w2.setCell ⟨g, 1, none⟩ v') g B Wt' fl ∧ (∃ c, w2.cell? ⟨g, 1, none⟩ = some c) ∧ w2.frozen? ⟨g, 1, none⟩ = false := by
  obtain ⟨u1, u2, hb, h1, h2, h3, h4, h5, h6⟩ := h.pg
  have e : u2 = v2 := by
    have := (blk_cell hb 1).symm.trans hc
    simpa using this
  subst e
  have R := wait_done hb h1 h2 h3 h4 h5 h6 hw hown hg hat
  exact ⟨h.trans R.1, R.2⟩

/-- append(p.waits, n). -/
theorem pg_wait (hgd : o.guard = none) (s x : Operand) (ho : o.op = .call { callee := .builtin .append, args := #[s, x], argTypes := #[48, 48] })
    (hP : Pst base ok w w1 g B Wt fl) (hc : w1.cell? ⟨g, 1, none⟩ = some v2) (hs : a.eval s = v2)
    (y : Int) (hx : a.eval x = .slice (some ⟨w1.heap.size, 0, none⟩) 1 1) (hlen : (Wt.length + 1) * 8 ≤ 140737488355328)
    (h : ∀ A' c' w2 cc, Pst base ok w (w2.setCell ⟨g, 1, none⟩ (.slice A' (Wt.length + 1) c')) g B (Wt ++ [y]) fl → w2.cell? ⟨g, 1, none⟩ = some cc → w2.frozen? ⟨g, 1, none⟩ = false →
      wpList Try.prog ops Q rest (a.put o.dst (.slice A' (Wt.length + 1) c')) w2) : wpList Try.prog ops Q (o :: rest) a (w1.alloc (.cells #[.int .i64 y] 3)) := by
  obtain ⟨u1, u2, hb, h1, h2, h3, h4, h5, h6⟩ := hP.pg
  have e : u2 = v2 := by
    have := (blk_cell hb 1).symm.trans hc
    simpa using this
  subst e
  have hbase : base ≤ w1.heap.size := Nat.le_trans h1 (Nat.le_of_lt (blk_lt hb))
  refine print_append_num (w0 := w1) base hgd s x 48 3 .i64 8 ho Try.underlying48 infoI (by decide) u2 Wt y hs hx h4 (Below.refl _ _) hbase hlen ?_
  intro v' w2 hown _ hgrow hat
  obtain ⟨A', c', rfl⟩ := own_slice hown
  have R := wait_now hP hc (Below.refl _ _) hown hgrow (fun k hk => by
    rcases hat with hat | ⟨b, hat, hlb⟩
    · exact .inl (hat ▸ hk)
    · rw [hat] at hk
      have : b = k := by simpa using hk
      exact .inr (by omega))
  obtain ⟨cc, hcc⟩ := R.2.1
  have hlm : (Wt ++ [y]).length = Wt.length + 1 := by simp
  rw [hlm] at R ⊢
  exact h A' c' w2 cc R.1 hcc R.2.2
end
end Go.Proofs.Ytmppdgjnibamlab.Pag
