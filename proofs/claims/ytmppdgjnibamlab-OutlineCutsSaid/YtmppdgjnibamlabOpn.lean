/- An argument is opened kind by kind: what its cells say, and that its leaves are well formed. -/
import Derived.Test.YtmppdgjnibamlabWMore
import Derived.Deep.Slices
import Derived.ChangeSame
import Derived.SizedLaws
namespace Go.Proofs.Ytmppdgjnibamlab.Opn
open Go.RowKit Go.Proofs.YtmppdgjnibamlabW.PrintWords Go.ChangeShapes Go.WideShapes
set_option linter.unusedVariables false
set_option linter.unusedSimpArgs false

section
variable {H : Type} {enc : TypeId × Value → H} {P : Program} {w : World} {base : Nat} {spare : Nat → Bool} {held : Bool}

def Opens {α : Type} (enc : TypeId × Value → H) (P : Program) (w : World) (base : Nat) (spare : Nat → Bool) (held : Bool) (d : Kd α) (wf : α → Prop) (t : TypeId) : Prop :=
  ∀ fuel cs x, DataW.trod enc P w base spare held fuel t cs = some x → (∀ n ∈ DataW.weights P t x.1, n ≤ 140737488351232) → ∃ y, d.K w y cs ∧ wf y
theorem opens_int {t : TypeId} {k : IntKind} (ht : P.underlying t = some (.int k)) : Opens enc P w base spare held (Kd.int k) (fun n => (Lit.int k n).wf = true) t := fun fuel cs x h hwt => by
  obtain ⟨n, rfl, -, hn⟩ := DataW.trod_int ht h
  exact ⟨n, rfl, hn⟩
theorem opens_bool {t : TypeId} (ht : P.underlying t = some .bool) : Opens enc P w base spare held Kd.bool (fun _ => True) t := fun fuel cs x h hwt => by
  obtain ⟨n, rfl, -⟩ := DataW.trod_bool ht h
  exact ⟨n, rfl, trivial⟩
theorem opens_string {t : TypeId} (ht : P.underlying t = some .string) : Opens enc P w base spare held Kd.string (fun s => s.size ≤ 140737488351232) t := fun fuel cs x h hwt => by
  obtain ⟨s, rfl, rfl, hs⟩ := DataW.trod_string ht h
  refine ⟨s, rfl, ?_⟩
  have := hwt s.data.toList.length (by simp [DataW.weights])
  rwa [Array.length_toList] at this
theorem mem_weightsAll {e : TypeId} {d : DataW H} {n : Nat} (hn : n ∈ DataW.weights P e d) : ∀ {ds : List (DataW H)}, d ∈ ds → n ∈ DataW.weightsAll P e ds
  | d0 :: ds, h => by
    simp only [DataW.weightsAll, List.mem_append]
    rcases List.mem_cons.1 h with rfl | h
    · exact .inl hn
    · exact .inr (mem_weightsAll hn h)
theorem opens_slice {α : Type} {d : Kd α} {wf : α → Prop} {t e : TypeId} (ht : P.underlying t = some (.slice e)) (hsz : P.cellsOf e = d.sz) {B : Nat} (hB : P.bytesOf e = B) (hd : Opens enc P w base spare held d wf e) :
    Opens enc P w base spare held (Kd.slice e d) (fun l => l.length * B ≤ 140737488351232 ∧ ∀ x ∈ l, wf x) t := fun fuel cs x h hwt => by
  rcases Deep.open_slice ht h with ⟨rfl, -⟩ | ⟨a, len, cap, m, n, D, Pl, rfl, hb, hl, hm, hmm, rfl, hx⟩
  · exact ⟨[], ⟨none, 0, rfl, Nat.le_refl _, Kd.C_nil d w⟩, by simp, fun x hx => by simp at hx⟩
  · have hlm : len ≤ m := by rw [hmm]; split <;> omega
    have each : ∀ i, i < len → ∃ q : α × List Value, d.K w q.1 q.2 ∧ wf q.1 ∧ ∀ j u, q.2[j]? = some u → w.cell? (a.add (i * d.sz + j)) = some u := by
      intro i hi
      obtain ⟨cs', h1, h2⟩ := hx i (by omega)
      obtain ⟨_, hlen, hcell⟩ := World.cells?_some h1
      obtain ⟨y, hy, hw⟩ := hd _ _ _ h2 (fun n hn => hwt n (by
        simp only [DataW.weights, ht, List.mem_cons, List.mem_append]
        exact .inr (.inl (mem_weightsAll hn (List.mem_map.2 ⟨i, List.mem_range.2 hi, rfl⟩)))))
      refine ⟨(y, cs'), hy, hw, fun j u hu => ?_⟩
      have hj : j < cs'.length := (List.getElem?_eq_some_iff.1 hu).1
      have := hcell j (by omega)
      rw [Deep.add_add, hsz] at this
      rw [this]
      exact hu
    have all : ∀ n, n ≤ len → ∃ ys : List α, ys.length = n ∧ ∀ j p, ys[j]? = some p → wf p ∧ ∃ c, d.K w p c ∧ ∀ i u, c[i]? = some u → w.cell? (a.add (j * d.sz + i)) = some u := by
      intro n
      induction n with
      | zero => intro _; exact ⟨[], rfl, fun j p hp => by simp at hp⟩
      | succ n ih =>
        intro hn
        obtain ⟨ys, hy, hp⟩ := ih (by omega)
        obtain ⟨q, h1, h2, h3⟩ := each n (by omega)
        refine ⟨ys ++ [q.1], by simp [hy], fun j p hj => ?_⟩
        rcases Nat.lt_or_ge j n with hlt | hge
        · rw [List.getElem?_append_left (by omega)] at hj
          exact hp j p hj
        · have hjl := (List.getElem?_eq_some_iff.1 hj).1
          have hjn : j = n := by rw [List.length_append, List.length_singleton] at hjl; omega
          subst hjn
          rw [List.getElem?_append_right (by omega), hy, Nat.sub_self] at hj
          have : q.1 = p := by simpa using hj
          subst this
          exact ⟨h2, q.2, h1, h3⟩
    obtain ⟨ys, hy, hp⟩ := all len (Nat.le_refl _)
    subst hy
    have hsize : ys.length * B ≤ 140737488351232 := by
      have := hwt _ (by simp only [DataW.weights, ht]; exact List.mem_cons_self)
      simp only [List.length_map, List.length_range, hB] at this
      exact Nat.le_trans (Nat.mul_le_mul_right _ (Nat.le_add_right _ _)) this
    refine ⟨ys, ⟨some a, cap, rfl, hl, ?_⟩, hsize, fun x hx => ?_⟩
    · refine ⟨rfl, by simp only [maxLen] at hm; omega, fun hpos => ⟨a, rfl, fun j p hj => ?_⟩⟩
      obtain ⟨-, c, h1, h2⟩ := hp j p hj
      exact ⟨c, d.K_len h1, h1, h2⟩
    · obtain ⟨i, hi, rfl⟩ := List.getElem_of_mem hx
      exact (hp i _ (List.getElem?_eq_getElem hi)).1
theorem opens_struct2 {α β : Type} {a : Kd α} {b : Kd β} {wa : α → Prop} {wb : β → Prop} {t : TypeId} {f0 f1 : Field} (ht : P.underlying t = some (.struct #[f0, f1])) (hc : P.cellsOf t = a.sz + b.sz)
    (o0 : f0.offset = 0) (o1 : f1.offset = a.sz) (c0 : P.cellsOf f0.type = a.sz) (c1 : P.cellsOf f1.type = b.sz)
    (h0 : Opens enc P w base spare held a wa f0.type) (h1 : Opens enc P w base spare held b wb f1.type) :
    Opens enc P w base spare held (Kd.pair a b) (fun x => wa x.1 ∧ wb x.2) t := fun fuel cs x h hwt => by
  obtain ⟨xs, n, _, rfl, hlen, hxl, hf⟩ := DataW.trod_struct ht h
  have hwe : ∀ (j : Nat) (f : Field) (y : DataW H × List MemPlace), (#[f0, f1] : Array Field)[j]? = some f → xs[j]? = some y → ∀ n ∈ DataW.weights P f.type y.1, n ≤ 140737488351232 := fun j f y hj hy n hn => hwt n (by
    simp only [DataW.weights, ht]
    exact DataW.weights_mem_each (j := j) (by rw [List.getElem?_map, show (#[f0, f1] : Array Field).toList[j]? = some f by simpa using hj]; rfl) (by rw [List.getElem?_map, hy]; rfl) n hn)
  rw [hc] at hlen
  match xs, hxl with
  | [y0, y1], _ =>
    have g0 := hf 0 f0 rfl
    have g1 := hf 1 f1 rfl
    rw [o0, c0, List.drop_zero] at g0
    rw [o1, c1] at g1
    obtain ⟨u, hu, wu⟩ := h0 _ _ _ g0 (hwe 0 f0 y0 rfl rfl)
    obtain ⟨v, hv, wv⟩ := h1 _ _ _ g1 (hwe 1 f1 y1 rfl rfl)
    refine ⟨(u, v), ⟨_, _, ?_, hu, hv⟩, wu, wv⟩
    rw [List.take_of_length_le (l := cs.drop a.sz) (by rw [List.length_drop]; omega), List.take_append_drop]
theorem opens_struct3 {α β γ : Type} {a : Kd α} {b : Kd β} {c : Kd γ} {wa : α → Prop} {wb : β → Prop} {wc : γ → Prop} {t : TypeId} {f0 f1 f2 : Field} (ht : P.underlying t = some (.struct #[f0, f1, f2])) (hc : P.cellsOf t = a.sz + (b.sz + c.sz))
    (o0 : f0.offset = 0) (o1 : f1.offset = a.sz) (o2 : f2.offset = a.sz + b.sz) (c0 : P.cellsOf f0.type = a.sz) (c1 : P.cellsOf f1.type = b.sz) (c2 : P.cellsOf f2.type = c.sz)
    (h0 : Opens enc P w base spare held a wa f0.type) (h1 : Opens enc P w base spare held b wb f1.type) (h2 : Opens enc P w base spare held c wc f2.type) :
    Opens enc P w base spare held (Kd.pair a (Kd.pair b c)) (fun x => wa x.1 ∧ wb x.2.1 ∧ wc x.2.2) t := fun fuel cs x h hwt => by
  obtain ⟨xs, n, _, rfl, hlen, hxl, hf⟩ := DataW.trod_struct ht h
  have hwe : ∀ (j : Nat) (f : Field) (y : DataW H × List MemPlace), (#[f0, f1, f2] : Array Field)[j]? = some f → xs[j]? = some y → ∀ n ∈ DataW.weights P f.type y.1, n ≤ 140737488351232 := fun j f y hj hy n hn => hwt n (by
    simp only [DataW.weights, ht]
    exact DataW.weights_mem_each (j := j) (by rw [List.getElem?_map, show (#[f0, f1, f2] : Array Field).toList[j]? = some f by simpa using hj]; rfl) (by rw [List.getElem?_map, hy]; rfl) n hn)
  rw [hc] at hlen
  match xs, hxl with
  | [y0, y1, y2], _ =>
    have g0 := hf 0 f0 rfl
    have g1 := hf 1 f1 rfl
    have g2 := hf 2 f2 rfl
    rw [o0, c0, List.drop_zero] at g0
    rw [o1, c1] at g1
    rw [o2, c2] at g2
    obtain ⟨u, hu, wu⟩ := h0 _ _ _ g0 (hwe 0 f0 y0 rfl rfl)
    obtain ⟨v, hv, wv⟩ := h1 _ _ _ g1 (hwe 1 f1 y1 rfl rfl)
    obtain ⟨z, hz, wz⟩ := h2 _ _ _ g2 (hwe 2 f2 y2 rfl rfl)
    refine ⟨(u, v, z), ⟨_, _, ?_, hu, _, _, rfl, hv, hz⟩, wu, wv, wz⟩
    rw [← List.drop_drop, List.take_of_length_le (l := (cs.drop a.sz).drop b.sz) (by rw [List.length_drop, List.length_drop]; omega), List.take_append_drop, List.take_append_drop]
theorem opens_struct4 {α β γ δ : Type} {a : Kd α} {b : Kd β} {c : Kd γ} {d : Kd δ} {wa : α → Prop} {wb : β → Prop} {wc : γ → Prop} {wd : δ → Prop} {t : TypeId} {f0 f1 f2 f3 : Field} (ht : P.underlying t = some (.struct #[f0, f1, f2, f3])) (hc : P.cellsOf t = a.sz + (b.sz + (c.sz + d.sz)))
    (o0 : f0.offset = 0) (o1 : f1.offset = a.sz) (o2 : f2.offset = a.sz + b.sz) (o3 : f3.offset = a.sz + b.sz + c.sz) (c0 : P.cellsOf f0.type = a.sz) (c1 : P.cellsOf f1.type = b.sz) (c2 : P.cellsOf f2.type = c.sz) (c3 : P.cellsOf f3.type = d.sz)
    (h0 : Opens enc P w base spare held a wa f0.type) (h1 : Opens enc P w base spare held b wb f1.type) (h2 : Opens enc P w base spare held c wc f2.type) (h3 : Opens enc P w base spare held d wd f3.type) :
    Opens enc P w base spare held (Kd.pair a (Kd.pair b (Kd.pair c d))) (fun x => wa x.1 ∧ wb x.2.1 ∧ wc x.2.2.1 ∧ wd x.2.2.2) t := fun fuel cs x h hwt => by
  obtain ⟨xs, n, _, rfl, hlen, hxl, hf⟩ := DataW.trod_struct ht h
  have hwe : ∀ (j : Nat) (f : Field) (y : DataW H × List MemPlace), (#[f0, f1, f2, f3] : Array Field)[j]? = some f → xs[j]? = some y → ∀ n ∈ DataW.weights P f.type y.1, n ≤ 140737488351232 := fun j f y hj hy n hn => hwt n (by
    simp only [DataW.weights, ht]
    exact DataW.weights_mem_each (j := j) (by rw [List.getElem?_map, show (#[f0, f1, f2, f3] : Array Field).toList[j]? = some f by simpa using hj]; rfl) (by rw [List.getElem?_map, hy]; rfl) n hn)
  rw [hc] at hlen
  match xs, hxl with
  | [y0, y1, y2, y3], _ =>
    have g0 := hf 0 f0 rfl
    have g1 := hf 1 f1 rfl
    have g2 := hf 2 f2 rfl
    have g3 := hf 3 f3 rfl
    rw [o0, c0, List.drop_zero] at g0
    rw [o1, c1] at g1
    rw [o2, c2] at g2
    rw [o3, c3] at g3
    obtain ⟨u, hu, wu⟩ := h0 _ _ _ g0 (hwe 0 f0 y0 rfl rfl)
    obtain ⟨v, hv, wv⟩ := h1 _ _ _ g1 (hwe 1 f1 y1 rfl rfl)
    obtain ⟨z, hz, wz⟩ := h2 _ _ _ g2 (hwe 2 f2 y2 rfl rfl)
    obtain ⟨y, hy, wy⟩ := h3 _ _ _ g3 (hwe 3 f3 y3 rfl rfl)
    refine ⟨(u, v, z, y), ⟨_, _, ?_, hu, _, _, rfl, hv, _, _, rfl, hz, hy⟩, wu, wv, wz, wy⟩
    simp only [← List.drop_drop]
    rw [List.take_of_length_le (l := (((cs.drop a.sz).drop b.sz).drop c.sz)) (by simp only [List.length_drop]; omega), List.take_append_drop, List.take_append_drop, List.take_append_drop]
theorem opens_iso {α β : Type} {d : Kd α} {wf : α → Prop} {t : TypeId} {f : β → α} (g : α → β) (hfg : ∀ a, f (g a) = a) (h : Opens enc P w base spare held d wf t) : Opens enc P w base spare held (Kd.iso d f) (fun b => wf (f b)) t := fun fuel cs x hx hwt => by
  obtain ⟨y, hy, hw⟩ := h fuel cs x hx hwt
  exact ⟨g y, by show d.K w (f (g y)) cs; rw [hfg]; exact hy, by show wf (f (g y)); rw [hfg]; exact hw⟩
end
end Go.Proofs.Ytmppdgjnibamlab.Opn
