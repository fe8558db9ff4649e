/- The reference's page: Now. -/
import Derived.Test.YtmppdgjnibamlaaRgD
namespace Go.Proofs.Ytmppdgjnibamlaa.Rag
open Go.RowKit Go.Proofs.YtmppdgjnibamlaaW.PrintWords Go.Proofs.Ytmppdgjnibamlaa.PRf
open Go.Proofs.Ytmppdgjnibamlaa.Pag (over be C_reads own_R R_own1 store4 store4_length u8_wrap infoI)
set_option linter.unusedVariables false
set_option linter.unusedSimpArgs false

/-- The waiting places struck through: all that are the mark. -/
def leftOf (m : Int) (l : List Int) : List Int := l.filter fun x => !(x == m)
def metIn (m : Int) (l : List Int) : Bool := l.any fun x => x == m
theorem leftOf_len (m : Int) (l : List Int) : (leftOf m l).length ≤ l.length := List.length_filter_le _ _
theorem take_rd {l : List Int} {j : Nat} (h : j < l.length) : l.take (j + 1) = l.take j ++ [rd l (j : Int)] := by rw [List.take_succ_eq_append_getElem h]; simp [rd, h]

theorem Pst.drew {w w1 : World} {base g : Nat} {ok : Nat → Prop} {B Wt : List Int} {fl : Bool} (h : Pst base ok w w1 g B Wt fl) : Pst base ok w w1.drew g B Wt fl := ⟨h.pg.drew, h.kept.drew, h.below.drew⟩
/-- One byte of a page stored. -/
theorem Pst.stored {w w1 : World} {base g gb cap j : Nat} {ok : Nat → Prop} {B Wt : List Int} {fl : Bool}
    (hP : Pst base ok w w1 g B Wt fl) (hc : w1.cell? ⟨g, 0, none⟩ = some (.slice (some ⟨gb, 0, none⟩) B.length cap)) (y : Int) :
    Pst base ok w (w1.setCell ⟨gb, j, none⟩ (.int .u8 y)) g (B.set j y) Wt fl := by
  obtain ⟨u1, u2, hb, h1, h2, h3, h4, h5, h6⟩ := hP.pg
  have e : u1 = .slice (some ⟨gb, 0, none⟩) B.length cap := by
    have := (blk_cell hb 0).symm.trans hc
    simpa using this
  subst e
  have hne : g ≠ gb := fun e => by
    obtain ⟨cs, hcs⟩ := own_typed h3 gb (by simp [Value.ownBlock])
    subst e
    rw [hb] at hcs; simp at hcs
  have hd : u2.ownBlock = none ∨ u2.ownBlock ≠ some gb := own_type_ne h4 h3 (by decide)
  have hs := own_store h3 (j : Int) y
  simp only [Int.toNat_natCast] at hs
  have hK : Kept w1 (w1.setCell ⟨gb, j, none⟩ (.int .u8 y)) (fun k => ok k ∨ w.heap.size ≤ k) := (Kept.refl _ _).setCell (.inl (h5 gb (by simp [Value.ownBlock]))) _
  refine hP.trans ⟨⟨_, u2, (blk_grown hb hs.2 (by simpa using hne)), h1, .inl h2, ?_, own_other h4 hs.2 hd, fun k e => .inl (h5 k e), fun k e => .inl (h6 k e)⟩, hK, (Below.refl _ _).setCell (own_base h3 gb (by simp [Value.ownBlock])) _⟩
  have : (B.set j y).length = B.length := by simp
  rw [this]
  exact hs.1
/-- The page with other waiting places, of a row that is new. -/
theorem Pst.relinked {w wr : World} {base g : Nat} {ok : Nat → Prop} {B Wt L : List Int} {fl : Bool} {v : Value} (h : Pg w base ok g B Wt fl) (hb : Below w.heap.size w wr)
    (hown : wr.ownsRow w.heap.size 3 1 v L.length (nums .i64 L)) : Pst base ok w (wr.setCell ⟨g, 1, none⟩ v) g B L fl ∧ wr.frozen? ⟨g, 1, none⟩ = false ∧ ∃ c, wr.cell? ⟨g, 1, none⟩ = some c := by
  have hl := h.lt
  obtain ⟨v1, v2, hg, h1, h2, h3, h4, h5, h6⟩ := h
  have hgr : wr.heap[g]? = some (.cells #[v1, v2, .bool fl] 65 (0, 0)) := (hb.block g hl).trans hg
  have h3r := own_move h3 (fun k e => hb.block k (own_lt h3 k e))
  have hn1 : v1.ownBlock ≠ some g := fun e => by
    obtain ⟨cs, hc⟩ := own_typed h3r g e
    rw [hgr] at hc; simp at hc
  have hn2 : v.ownBlock ≠ some g := fun e => by have := own_base hown g e; omega
  refine ⟨⟨⟨v1, v, by simpa using blk_set hgr 1 v, h1, .inl h2, ?_, ?_, fun k e => .inl (h5 k e), fun k e => .inr (own_base hown k e)⟩, (Kept.of_below hb _).setCell (.inl h2) _, (hb.mono (by omega)).setCell h1 _⟩, blk_frozen hgr 1, ⟨_, (blk_cell hgr 1).trans rfl⟩⟩
  · exact own_move h3r fun k e => Below.heap_setCell _ _ _ _ (fun e2 => hn1 (by rw [e]; simp [e2]))
  · exact own_move (own_weaken hown (by omega)) fun k e => Below.heap_setCell _ _ _ _ (fun e2 => hn2 (by rw [e]; simp [e2]))

theorem Pst.of_below {w wr : World} {base g : Nat} {ok : Nat → Prop} {B Wt : List Int} {fl : Bool} (h : Pg w base ok g B Wt fl) (hb : Below w.heap.size w wr) : Pst base ok w wr g B Wt fl :=
  ⟨(h.below hb).mono fun _ hk => .inl hk, Kept.of_below hb _, hb.mono h.base_le⟩
theorem byte_cell {w : World} {base g : Nat} {ok : Nat → Prop} {B Wt : List Int} {fl : Bool} (h : Pg w base ok g B Wt fl) : ∃ A c, w.cell? ⟨g, 0, none⟩ = some (.slice A B.length c) := by
  obtain ⟨v1, v2, hb, _, _, h3, -⟩ := h
  obtain ⟨A, c, rfl⟩ := own_slice h3
  exact ⟨A, c, (blk_cell hb 0).trans rfl⟩
theorem wait_cell {w : World} {base g : Nat} {ok : Nat → Prop} {B Wt : List Int} {fl : Bool} (h : Pg w base ok g B Wt fl) : ∃ A c, w.cell? ⟨g, 1, none⟩ = some (.slice A Wt.length c) := by
  obtain ⟨v1, v2, hb, _, _, _, h4, -⟩ := h
  obtain ⟨A, c, rfl⟩ := own_slice h4
  exact ⟨A, c, (blk_cell hb 1).trans rfl⟩
theorem Pst.later {w w1 w2 : World} {base g : Nat} {ok : Nat → Prop} {B Wt : List Int} {fl : Bool} (h : Pst base ok w w1 g B Wt fl) (hb : Below w1.heap.size w1 w2) : Pst base ok w w2 g B Wt fl :=
  ⟨h.pg.below hb, h.kept.then_ (Kept.of_below hb (fun k => ok k ∨ w.heap.size ≤ k)) (fun i hi => hi), h.below.trans (hb.mono h.pg.base_le)⟩
def LoopRel (w : World) (m : Int) (Wt : List Int) (v f i : Value) (wr : World) : Prop :=
  ∃ j : Nat, i = .int .i64 (j : Int) ∧ j ≤ Wt.length ∧ f = .bool (metIn m (Wt.take j)) ∧ Aside0 (wr.ownsRow w.heap.size 3 1 v (leftOf m (Wt.take j)).length (nums .i64 (leftOf m (Wt.take j)))) ∧ Aside0 (Below w.heap.size w wr)

set_option maxHeartbeats 4000000 in
set_option maxRecDepth 100000 in
theorem Now_bad {w : World} {base0 g : Nat} {ok : Nat → Prop} {B Wt : List Int} {fl : Bool} (h : Pg w base0 ok g B Wt fl) (m base : Int) (ho : over fl B = false) (hW : Wt.length ≤ 1000000000)
    (hx : metIn m Wt = false ∨ (metIn m Wt = true ∧ (B.length : Int) < base) ∨ (metIn m Wt = true ∧ base ≤ (B.length : Int) ∧ base < -2147483648)) :
    Calls Try.prog 92 #[.pointer (some ⟨g, 0, none⟩), .int .i64 m, .int .i64 base] w fun e w' => e = .returned (.tuple #[]) ∧ Pst base0 ok w w' g B Wt true := by
  have HC := Aside0.mk (done_calls h)
  rw [ho] at HC
  have HPG := Aside0.mk h
  have HXX := Aside0.mk hx
  have HOO := Aside0.mk ho
  have hWl : (Wt.length : Int) ≤ 1000000000 := by omega
  have hBl : (B.length : Int) ≤ 1048576 := by simp [over] at ho; omega
  clear h hx ho hW
  go_enter Try.func92, Try.ntmps92
  go_wp2_with (go_at_call 108; refine HC.out.mono ?_; rintro e w' ⟨rfl, rfl⟩)
  go_loopw [6, 7, 8] (fun v f i wr => LoopRel w m Wt v f i wr) (fun _ _ i _ => Wt.length - (RowKit.intOf i).toNat)
  case atStart => exact ⟨0, rfl, by omega, rfl, ⟨own_nil _ _ _ _⟩, ⟨Below.refl _ _⟩⟩
  case round =>
    obtain ⟨j, rfl, hj, rfl, HOW, HB⟩ := hrel
    by_cases hlt : j < Wt.length
    · obtain ⟨v1, v2, hb, h1, h2, h3, h4, h5, h6⟩ := HPG.out
      obtain ⟨A2, c2, hv2, hle2, hC2⟩ := Kd.R_reads (own_R (own_move h4 fun k e => HB.out.block k (own_lt h4 k e)) (ok := fun _ => True) (fun _ _ => trivial))
      have hbr := (HB.out.block g (blk_lt hb)).trans hb
      subst hv2
      have C1 : wr.cell? ⟨g, 1, none⟩ = some (.slice A2 Wt.length c2) := (blk_cell hbr 1).trans rfl
      obtain ⟨ad, had, hcell⟩ := (C_reads hC2).at_ (j : Int) (by omega) (by omega)
      subst had
      simp only [Int.toNat_natCast] at hcell
      have hjl : (j : Int) < (Wt.length : Int) := by omega
      have hj0 : (0 : Int) ≤ (j : Int) := by omega
      have HSZ := Aside0.mk HB.out.size
      have HLL := Aside0.mk (show (leftOf m (Wt.take j)).length ≤ 1000000000 by have := leftOf_len m (Wt.take j); rw [List.length_take] at this; omega)
      clear hb h1 h2 h3 h4 h5 h6 hle2 hC2 hbr
      obtain ⟨x, hxe⟩ : ∃ x, rd Wt (j : Int) = x := ⟨_, rfl⟩
      have HTK := Aside0.mk (take_rd hlt)
      rw [hxe] at hcell HTK
      clear hxe
      by_cases hq : x = m
      · have hqb : (x == m) = true := by simp [hq]
        have HL := Aside0.mk (show leftOf m (Wt.take (j + 1)) = leftOf m (Wt.take j) ∧ metIn m (Wt.take (j + 1)) = true by
          rw [HTK.out]; simp [leftOf, metIn, hq])
        clear hq
        go_wp2
        go_roundw
        case rel => exact ⟨j + 1, by go_num, by omega, by rw [HL.out.2], ⟨by rw [HL.out.1]; exact HOW.out⟩, HB⟩
        case measure => simp [RowKit.intOf]; omega
      · have hqb : (x == m) = false := by simp [hq]
        have HL := Aside0.mk (show leftOf m (Wt.take (j + 1)) = leftOf m (Wt.take j) ++ [x] ∧ metIn m (Wt.take (j + 1)) = metIn m (Wt.take j) by
          rw [HTK.out]; simp [leftOf, metIn, hq])
        clear hq
        go_wp2_with (at_builtin; refine print_append_num (w0 := w) w.heap.size rfl (.tmp 31) (.tmp 39) 26 3 .i64 8 rfl Try.underlying26 infoI (by decide) _ (leftOf m (Wt.take j)) x rfl (by simp [Act.eval]) HOW.out HB.out HSZ.out (by have := HLL.out; omega) ?_; intro v' w2 hown hbel hgrow hat; have HO2 := Aside0.mk hown; have HB2 := Aside0.mk hbel; clear hown hbel hgrow hat)
        go_roundw
        case rel => exact ⟨j + 1, by go_num, by omega, by rw [HL.out.2], ⟨by rw [HL.out.1]; exact HO2.out⟩, HB2⟩
        case measure => simp [RowKit.intOf]; omega
    · obtain rfl : j = Wt.length := by omega
      rw [List.take_length] at HOW ⊢
      have HPA : Aside0 (Pst base0 ok w (wr.setCell ⟨g, 2, none⟩ (.bool true)) g B Wt true) := Aside0.mk ((Pst.of_below HPG.out HB.out).trans (failed (Pst.of_below HPG.out HB.out).pg true))
      obtain ⟨C2, F2⟩ := flag_cell (HPG.out.below HB.out)
      obtain ⟨A1, c1, C0⟩ := byte_cell (HPG.out.below HB.out)
      obtain ⟨A2, c2, C1⟩ := wait_cell (HPG.out.below HB.out)
      rcases HXX.out with hx | ⟨hx, hx2⟩ | ⟨hx, hx2, hx3⟩
      · rw [hx]
        clear HXX hx
        go_wp2
        first | go_end0 | ((try simp only [Exit.inBlock, Exit.then]); refine bodyPost_ret (results_none rfl _ _ _) rfl ?_)
        exact ⟨rfl, HPA.out⟩
      · rw [hx]
        clear HXX hx
        go_wp2
        first | go_end0 | ((try simp only [Exit.inBlock, Exit.then]); refine bodyPost_ret (results_none rfl _ _ _) rfl ?_)
        exact ⟨rfl, HPA.out⟩
      · rw [hx]
        clear HXX hx
        go_wp2
        first | go_end0 | ((try simp only [Exit.inBlock, Exit.then]); refine bodyPost_ret (results_none rfl _ _ _) rfl ?_)
        exact ⟨rfl, HPA.out⟩

set_option maxHeartbeats 4000000 in
set_option maxRecDepth 100000 in
theorem Now_ok {w : World} {base0 g : Nat} {ok : Nat → Prop} {B Wt : List Int} {fl : Bool} (h : Pg w base0 ok g B Wt fl) (m : Nat) (base : Int) (ho : over fl B = false) (hW : Wt.length ≤ 1000000000)
    (hx : metIn (m : Int) Wt = true) (hb0 : base ≤ (B.length : Int)) (hb1 : -2147483648 ≤ base) (hm : m + 4 ≤ B.length) :
    Calls Try.prog 92 #[.pointer (some ⟨g, 0, none⟩), .int .i64 (m : Int), .int .i64 base] w fun e w' => e = .returned (.tuple #[]) ∧ Pst base0 ok w w' g (store4 B m ((B.length : Int) - base) 4) (leftOf (m : Int) Wt) fl := by
  have HC := Aside0.mk (done_calls h)
  rw [ho] at HC
  have HPG := Aside0.mk h
  have HXX := Aside0.mk hx
  have hWl : (Wt.length : Int) ≤ 1000000000 := by omega
  have hBl : (B.length : Int) ≤ 1048576 := by simp [over] at ho; omega
  obtain ⟨X, hX⟩ : ∃ X : Int, (B.length : Int) - base = X := ⟨_, rfl⟩
  obtain ⟨kb, hkb⟩ := big_4 X (by omega) (by omega)
  have HBG := Aside0.mk (fun W => foundryref04_Big.calls kb X 4 _ W hkb)
  have HX := Aside0.mk hX
  clear h hx ho hW hX hkb
  go_enter Try.func92, Try.ntmps92
  go_wp2_with (go_at_call 108; refine HC.out.mono ?_; rintro e w' ⟨rfl, rfl⟩)
  go_loopw [6, 7, 8] (fun v f i wr => LoopRel w (m : Int) Wt v f i wr) (fun _ _ i _ => Wt.length - (RowKit.intOf i).toNat)
  case atStart => exact ⟨0, rfl, by omega, rfl, ⟨own_nil _ _ _ _⟩, ⟨Below.refl _ _⟩⟩
  case round =>
    obtain ⟨j, rfl, hj, rfl, HOW, HB⟩ := hrel
    by_cases hlt : j < Wt.length
    · obtain ⟨v1, v2, hb, h1, h2, h3, h4, h5, h6⟩ := HPG.out
      obtain ⟨A2, c2, hv2, hle2, hC2⟩ := Kd.R_reads (own_R (own_move h4 fun k e => HB.out.block k (own_lt h4 k e)) (ok := fun _ => True) (fun _ _ => trivial))
      have hbr := (HB.out.block g (blk_lt hb)).trans hb
      subst hv2
      have C1 : wr.cell? ⟨g, 1, none⟩ = some (.slice A2 Wt.length c2) := (blk_cell hbr 1).trans rfl
      obtain ⟨ad, had, hcell⟩ := (C_reads hC2).at_ (j : Int) (by omega) (by omega)
      subst had
      simp only [Int.toNat_natCast] at hcell
      have hjl : (j : Int) < (Wt.length : Int) := by omega
      have hj0 : (0 : Int) ≤ (j : Int) := by omega
      have HSZ := Aside0.mk HB.out.size
      have HLL := Aside0.mk (show (leftOf (m : Int) (Wt.take j)).length ≤ 1000000000 by have := leftOf_len (m : Int) (Wt.take j); rw [List.length_take] at this; omega)
      clear hb h1 h2 h3 h4 h5 h6 hle2 hC2 hbr
      obtain ⟨x, hxe⟩ : ∃ x, rd Wt (j : Int) = x := ⟨_, rfl⟩
      have HTK := Aside0.mk (take_rd hlt)
      rw [hxe] at hcell HTK
      clear hxe
      by_cases hq : x = (m : Int)
      · have hqb : (x == (m : Int)) = true := by simp [hq]
        have HL := Aside0.mk (show leftOf (m : Int) (Wt.take (j + 1)) = leftOf (m : Int) (Wt.take j) ∧ metIn (m : Int) (Wt.take (j + 1)) = true by
          rw [HTK.out]; simp [leftOf, metIn, hq])
        clear hq
        go_wp2
        go_roundw
        case rel => exact ⟨j + 1, by go_num, by omega, by rw [HL.out.2], ⟨by rw [HL.out.1]; exact HOW.out⟩, HB⟩
        case measure => simp [RowKit.intOf]; omega
      · have hqb : (x == (m : Int)) = false := by simp [hq]
        have HL := Aside0.mk (show leftOf (m : Int) (Wt.take (j + 1)) = leftOf (m : Int) (Wt.take j) ++ [x] ∧ metIn (m : Int) (Wt.take (j + 1)) = metIn (m : Int) (Wt.take j) by
          rw [HTK.out]; simp [leftOf, metIn, hq])
        clear hq
        go_wp2_with (at_builtin; refine print_append_num (w0 := w) w.heap.size rfl (.tmp 31) (.tmp 39) 26 3 .i64 8 rfl Try.underlying26 infoI (by decide) _ (leftOf (m : Int) (Wt.take j)) x rfl (by simp [Act.eval]) HOW.out HB.out HSZ.out (by have := HLL.out; omega) ?_; intro v' w2 hown hbel hgrow hat; have HO2 := Aside0.mk hown; have HB2 := Aside0.mk hbel; clear hown hbel hgrow hat)
        go_roundw
        case rel => exact ⟨j + 1, by go_num, by omega, by rw [HL.out.2], ⟨by rw [HL.out.1]; exact HO2.out⟩, HB2⟩
        case measure => simp [RowKit.intOf]; omega
    · obtain rfl : j = Wt.length := by omega
      rw [List.take_length] at HOW ⊢
      rw [HXX.out]
      obtain ⟨AL, cL, rfl⟩ := own_slice HOW.out
      obtain ⟨hRL, FL, -⟩ := Pst.relinked HPG.out HB.out HOW.out
      have HP2 := Aside0.mk hRL
      have hgl := HPG.out.lt
      obtain ⟨v1, v2, hb, h1, h2, h3, h4, h5, h6⟩ := HPG.out
      obtain ⟨gb, capb, hu1, hgb, hgbl⟩ := h3.form (by omega)
      subst hu1
      have HGB : Aside0 (gb < w.heap.size) := ⟨own_lt h3 gb (by simp [Value.ownBlock])⟩
      have C0 : wr.cell? ⟨g, 0, none⟩ = some (.slice (some ⟨gb, 0, none⟩) B.length capb) := (HB.out.cell (p := ⟨g, 0, none⟩) hgl).trans ((blk_cell hb 0).trans rfl)
      obtain ⟨A2w, c2w, C1⟩ := wait_cell (HPG.out.below HB.out)
      have HNE : Aside0 (g ≠ gb) := ⟨by
        intro e
        obtain ⟨cs, hcs⟩ := own_typed h3 gb (by simp [Value.ownBlock])
        subst e
        rw [hb] at hcs; simp at hcs⟩
      clear hb h1 h2 h3 h4 h5 h6 hRL
      have hXs : (B.length : Int) - base = X := HX.out
      have hXa : X ≤ 2148532224 := by omega
      have hXb : 0 ≤ X := by omega
      have HSZ := Aside0.mk HB.out.size
      clear HOW
      go_wp2_with (go_at_call 76; refine (HBG.out _).mono ?_; rintro e w5 ⟨vx, rfl, hR, hB5⟩; have HR5 := Aside0.mk hR; have HB5 := Aside0.mk hB5; clear hR hB5)
      obtain ⟨hox, hbx⟩ := R_own1 HR5.out
      rw [be_len] at hox
      obtain ⟨gx, capx, rfl, hgx, hgxl⟩ := hox.form (by omega)
      have HNX : Aside0 (gx ≠ gb) := ⟨by have h1 := HGB.out; have h2 := HSZ.out; simp at hgx; omega⟩
      have HQ5 : Aside0 (Pst base0 ok w w5 g B (leftOf (m : Int) Wt) fl) := ⟨HP2.out.later HB5.out⟩
      have CX5 : Aside0 (∀ k : Nat, k < 4 → w5.cell? ⟨gx, k, none⟩ = some (.int .u8 (rd (be X 4) (k : Int)))) := ⟨fun k hk => by
        have := (own_at hox (k : Int) (by omega) (by omega)).1
        rwa [Int.toNat_natCast] at this⟩
      have CQ5 : Aside0 (w5.cell? ⟨g, 0, none⟩ = some (.slice (some ⟨gb, 0, none⟩) B.length capb)) := ⟨(HB5.out.cell (p := ⟨g, 0, none⟩) (by have := HB.out.size; simp; omega)).trans ((World.cell?_setCell_other _ ⟨g, 1, none⟩ ⟨g, 0, none⟩ _ (by simp)).trans C0)⟩
      clear hox hbx HR5 C0 C1 FL
      go_loopw [10] (fun v w1 => ∃ i : Nat, v = .int .i64 (i : Int) ∧ i ≤ 4 ∧ Aside0 (Pst base0 ok w w1 g (store4 B m X i) (leftOf (m : Int) Wt) fl) ∧ w1.cell? ⟨g, 0, none⟩ = some (.slice (some ⟨gb, 0, none⟩) B.length capb) ∧ Aside0 (∀ k : Nat, k < 4 → w1.cell? ⟨gx, k, none⟩ = some (.int .u8 (rd (be X 4) (k : Int))))) (fun v _ => 4 - (RowKit.intOf v).toNat)
      case atStart => exact ⟨0, rfl, by omega, HQ5, CQ5.out, CX5⟩
      case round =>
        obtain ⟨i, rfl, hi, HQ, CQ, CX⟩ := hrel
        clear HQ5 CX5 CQ5 HP2
        obtain rfl | rfl | rfl | rfl | rfl : i = 0 ∨ i = 1 ∨ i = 2 ∨ i = 3 ∨ i = 4 := by omega
        · obtain ⟨Bi, hBi⟩ : ∃ Bi, store4 B m X 0 = Bi := ⟨_, rfl⟩
          rw [hBi] at HQ
          have hl : Bi.length = B.length := by rw [← hBi, store4_length]
          rw [← hl] at CQ
          obtain ⟨y, hy⟩ : ∃ y, rd (be X 4) (0 : Int) = y := ⟨_, rfl⟩
          have HS := Aside0.mk (show Bi.set (m) y = store4 B m X (0 + 1) by rw [← hBi, ← hy, be4]; simp [store4, rd])
          have hx := CX.out 0 (by omega)
          rw [show ((0 : Nat) : Int) = (0 : Int) from rfl, hy] at hx
          obtain ⟨u1, u2, hb, _, _, h3, -⟩ := HQ.out.pg
          have hu : u1 = .slice (some ⟨gb, 0, none⟩) Bi.length capb := by
            have := (blk_cell hb 0).symm.trans CQ
            simpa using this
          subst hu
          have hat := own_at h3 (m : Int) (by omega) (by omega)
          rw [show (m : Int).toNat = m by omega] at hat
          obtain ⟨C4, F4⟩ := hat
          have n1 : ((m : Int) : Int) < (Bi.length : Int) := by omega
          have n2 : 0 ≤ (m : Int) := by omega
          have n3 : (m : Int).toNat = m := by omega
          have HR := Aside0.mk (HQ.out.stored (j := m) CQ y)
          have HCQ := Aside0.mk CQ
          have HHL := Aside0.mk hl
          clear hBi hl hb h3 HQ hy
          go_wp2
          go_region
          all_goals
            go_wp2
            go_roundw
            case rel => exact ⟨1, rfl, by omega, ⟨by have := HR.out.drew; rwa [HS.out] at this⟩, (World.cell?_setCell_other _ ⟨gb, m, none⟩ ⟨g, 0, none⟩ _ (by simp [HNE.out, Ne.symm HNE.out])).trans (by rw [← HHL.out]; exact HCQ.out), ⟨fun k hk => (World.cell?_setCell_other _ ⟨gb, m, none⟩ ⟨gx, k, none⟩ _ (by simp [HNX.out, Ne.symm HNX.out])).trans (CX.out k hk)⟩⟩
            case measure => simp [RowKit.intOf]
        · obtain ⟨Bi, hBi⟩ : ∃ Bi, store4 B m X 1 = Bi := ⟨_, rfl⟩
          rw [hBi] at HQ
          have hl : Bi.length = B.length := by rw [← hBi, store4_length]
          rw [← hl] at CQ
          obtain ⟨y, hy⟩ : ∃ y, rd (be X 4) (1 : Int) = y := ⟨_, rfl⟩
          have HS := Aside0.mk (show Bi.set (m + 1) y = store4 B m X (1 + 1) by rw [← hBi, ← hy, be4]; simp [store4, rd])
          have hx := CX.out 1 (by omega)
          rw [show ((1 : Nat) : Int) = (1 : Int) from rfl, hy] at hx
          obtain ⟨u1, u2, hb, _, _, h3, -⟩ := HQ.out.pg
          have hu : u1 = .slice (some ⟨gb, 0, none⟩) Bi.length capb := by
            have := (blk_cell hb 0).symm.trans CQ
            simpa using this
          subst hu
          have hat := own_at h3 ((m : Int) + 1) (by omega) (by omega)
          rw [show ((m : Int) + 1).toNat = m + 1 by omega] at hat
          obtain ⟨C4, F4⟩ := hat
          have n1 : (((m : Int) + 1) : Int) < (Bi.length : Int) := by omega
          have n2 : 0 ≤ ((m : Int) + 1) := by omega
          have n3 : ((m : Int) + 1).toNat = m + 1 := by omega
          have HR := Aside0.mk (HQ.out.stored (j := m + 1) CQ y)
          have HCQ := Aside0.mk CQ
          have HHL := Aside0.mk hl
          clear hBi hl hb h3 HQ hy
          go_wp2
          go_region
          all_goals
            go_wp2
            go_roundw
            case rel => exact ⟨2, rfl, by omega, ⟨by have := HR.out.drew; rwa [HS.out] at this⟩, (World.cell?_setCell_other _ ⟨gb, m + 1, none⟩ ⟨g, 0, none⟩ _ (by simp [HNE.out, Ne.symm HNE.out])).trans (by rw [← HHL.out]; exact HCQ.out), ⟨fun k hk => (World.cell?_setCell_other _ ⟨gb, m + 1, none⟩ ⟨gx, k, none⟩ _ (by simp [HNX.out, Ne.symm HNX.out])).trans (CX.out k hk)⟩⟩
            case measure => simp [RowKit.intOf]
        · obtain ⟨Bi, hBi⟩ : ∃ Bi, store4 B m X 2 = Bi := ⟨_, rfl⟩
          rw [hBi] at HQ
          have hl : Bi.length = B.length := by rw [← hBi, store4_length]
          rw [← hl] at CQ
          obtain ⟨y, hy⟩ : ∃ y, rd (be X 4) (2 : Int) = y := ⟨_, rfl⟩
          have HS := Aside0.mk (show Bi.set (m + 2) y = store4 B m X (2 + 1) by rw [← hBi, ← hy, be4]; simp [store4, rd])
          have hx := CX.out 2 (by omega)
          rw [show ((2 : Nat) : Int) = (2 : Int) from rfl, hy] at hx
          obtain ⟨u1, u2, hb, _, _, h3, -⟩ := HQ.out.pg
          have hu : u1 = .slice (some ⟨gb, 0, none⟩) Bi.length capb := by
            have := (blk_cell hb 0).symm.trans CQ
            simpa using this
          subst hu
          have hat := own_at h3 ((m : Int) + 2) (by omega) (by omega)
          rw [show ((m : Int) + 2).toNat = m + 2 by omega] at hat
          obtain ⟨C4, F4⟩ := hat
          have n1 : (((m : Int) + 2) : Int) < (Bi.length : Int) := by omega
          have n2 : 0 ≤ ((m : Int) + 2) := by omega
          have n3 : ((m : Int) + 2).toNat = m + 2 := by omega
          have HR := Aside0.mk (HQ.out.stored (j := m + 2) CQ y)
          have HCQ := Aside0.mk CQ
          have HHL := Aside0.mk hl
          clear hBi hl hb h3 HQ hy
          go_wp2
          go_region
          all_goals
            go_wp2
            go_roundw
            case rel => exact ⟨3, rfl, by omega, ⟨by have := HR.out.drew; rwa [HS.out] at this⟩, (World.cell?_setCell_other _ ⟨gb, m + 2, none⟩ ⟨g, 0, none⟩ _ (by simp [HNE.out, Ne.symm HNE.out])).trans (by rw [← HHL.out]; exact HCQ.out), ⟨fun k hk => (World.cell?_setCell_other _ ⟨gb, m + 2, none⟩ ⟨gx, k, none⟩ _ (by simp [HNX.out, Ne.symm HNX.out])).trans (CX.out k hk)⟩⟩
            case measure => simp [RowKit.intOf]
        · obtain ⟨Bi, hBi⟩ : ∃ Bi, store4 B m X 3 = Bi := ⟨_, rfl⟩
          rw [hBi] at HQ
          have hl : Bi.length = B.length := by rw [← hBi, store4_length]
          rw [← hl] at CQ
          obtain ⟨y, hy⟩ : ∃ y, rd (be X 4) (3 : Int) = y := ⟨_, rfl⟩
          have HS := Aside0.mk (show Bi.set (m + 3) y = store4 B m X (3 + 1) by rw [← hBi, ← hy, be4]; simp [store4, rd])
          have hx := CX.out 3 (by omega)
          rw [show ((3 : Nat) : Int) = (3 : Int) from rfl, hy] at hx
          obtain ⟨u1, u2, hb, _, _, h3, -⟩ := HQ.out.pg
          have hu : u1 = .slice (some ⟨gb, 0, none⟩) Bi.length capb := by
            have := (blk_cell hb 0).symm.trans CQ
            simpa using this
          subst hu
          have hat := own_at h3 ((m : Int) + 3) (by omega) (by omega)
          rw [show ((m : Int) + 3).toNat = m + 3 by omega] at hat
          obtain ⟨C4, F4⟩ := hat
          have n1 : (((m : Int) + 3) : Int) < (Bi.length : Int) := by omega
          have n2 : 0 ≤ ((m : Int) + 3) := by omega
          have n3 : ((m : Int) + 3).toNat = m + 3 := by omega
          have HR := Aside0.mk (HQ.out.stored (j := m + 3) CQ y)
          have HCQ := Aside0.mk CQ
          have HHL := Aside0.mk hl
          clear hBi hl hb h3 HQ hy
          go_wp2
          go_region
          all_goals
            go_wp2
            go_roundw
            case rel => exact ⟨4, rfl, by omega, ⟨by have := HR.out.drew; rwa [HS.out] at this⟩, (World.cell?_setCell_other _ ⟨gb, m + 3, none⟩ ⟨g, 0, none⟩ _ (by simp [HNE.out, Ne.symm HNE.out])).trans (by rw [← HHL.out]; exact HCQ.out), ⟨fun k hk => (World.cell?_setCell_other _ ⟨gb, m + 3, none⟩ ⟨gx, k, none⟩ _ (by simp [HNX.out, Ne.symm HNX.out])).trans (CX.out k hk)⟩⟩
            case measure => simp [RowKit.intOf]
        · go_wp2
          first | go_end0 | ((try simp only [Exit.inBlock, Exit.then]); refine bodyPost_ret (results_none rfl _ _ _) rfl ?_)
          exact ⟨rfl, by rw [HX.out]; exact HQ.out⟩
end Go.Proofs.Ytmppdgjnibamlaa.Rag
