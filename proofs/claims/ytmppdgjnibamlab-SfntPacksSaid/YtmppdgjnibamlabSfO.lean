/- sfnt.Formed: the contract, in the print's form. No condition but its own premises. -/
import Derived.Test.YtmppdgjnibamlabPgG
import Derived.Test.YtmppdgjnibamlabPSfx0
import Derived.Maps.OwnOps
import Derived.Maps.Views
namespace Go.Proofs.Ytmppdgjnibamlab.Pag
open Go.RowKit Go.Maps Go.WideMaps Go.Proofs.Ytmppdgjnibamlab.PSf Go.Proofs.YtmppdgjnibamlabW.PrintWords
set_option linter.unusedVariables false
set_option linter.unusedSimpArgs false

theorem plainElem_bool_inv {H : Type} {P : Program} {e : TypeId} (he : P.underlying e = some .bool) {v : Value} {z : DataW H × List MemPlace} (h : plainElem P e v = some z) : ∃ a, v = .bool a ∧ z = (.lit (.bool a), []) := by
  unfold plainElem at h
  rw [he] at h
  cases v <;> simp at h
  subst h
  exact ⟨_, rfl, rfl⟩
/-- 'm[k]' (without 'ok') at elements of kind bool: the run, ahead of the walk. -/
theorem lookup_bool {H : Type} {P : Program} {w : World} {t k e : TypeId} (K : Keyed P k) (ht : P.underlying t = some (.map k e)) (he : P.underlying e = some .bool) (hz : (zeroValue e).run P w = .ok (.bool false) w) {b n : Nat} {D : DataW H}
    (hown : w.ownsMap P k (plainElem P e) b n D) {key : Value} {kl : Lit} (hkey : keyOf P k key = some kl) {c : Bool} (hat : D.atKey kl (.lit (.bool false)) = .lit (.bool c)) : (Instr.lookup t (.map (some b)) key false).run P w = .ok (.bool c) w := by
  obtain ⟨v, ps, hrun, hv⟩ := hown.lookup K ht hz (plainElem_bool he false) hkey
  obtain ⟨c', rfl, hc⟩ := plainElem_bool_inv he hv
  simp only [Prod.mk.injEq] at hc
  rw [hat] at hc
  obtain ⟨hc, -⟩ := hc
  injection hc with hc
  injection hc with hc
  subst hc
  exact hrun
open Classical in
theorem atKey_fold {H : Type} (u z : DataW H) (k : Lit) (hk : WideAt.IsKeyLit k) : ∀ (acc : List Lit) (m : DataW H), IsMap m → (∀ x ∈ acc, WideAt.IsKeyLit x) → (acc.foldl (fun m x => m.put x u) m).atKey k z = if k ∈ acc then u else m.atKey k z
  | [], m, _, _ => by simp
  | x :: r, m, hm, h => by
    rw [List.foldl_cons, atKey_fold u z k hk r _ (hm.put _ _) (fun y hy => h y (List.mem_cons_of_mem _ hy))]
    by_cases hr : k ∈ r
    · rw [if_pos hr, if_pos (List.mem_cons_of_mem _ hr)]
    · rw [if_neg hr]
      by_cases hx : k = x
      · subst hx
        rw [if_pos (by simp), atKey_put_same hm hk]
      · rw [if_neg (by simp [hx, hr]), atKey_put_other hx]

def litOf (s : ByteArray) : Lit := .string s.data.toList
theorem litOf_inj {a b : ByteArray} (h : litOf a = litOf b) : a = b := by
  injection h with h
  exact ByteArray.ext (Array.toList_inj.1 h)
def Dt (ks : List ByteArray) : DataW Unit := setOf (.lit (.bool true)) (ks.map litOf)
theorem Dt_snoc (ks : List ByteArray) (x : ByteArray) : Dt (ks ++ [x]) = (Dt ks).put (litOf x) (.lit (.bool true)) := by
  unfold Dt
  rw [List.map_append, List.map_singleton, setOf_snoc]
def inB (ks : List ByteArray) (x : ByteArray) : Bool := ks.any fun t => decide (t.data.toList = x.data.toList)
theorem inB_iff (ks : List ByteArray) (x : ByteArray) : inB ks x = true ↔ x ∈ ks := by
  unfold inB
  rw [List.any_eq_true]
  constructor
  · rintro ⟨t, ht, h⟩
    have := of_decide_eq_true h
    have e : t = x := ByteArray.ext (Array.toList_inj.1 this)
    rwa [← e]
  · intro h
    exact ⟨x, h, decide_eq_true rfl⟩
theorem Dt_at (ks : List ByteArray) (x : ByteArray) : (Dt ks).atKey (litOf x) (.lit (.bool false)) = .lit (.bool (inB ks x)) := by
  have h := atKey_fold (.lit (.bool true) : DataW Unit) (.lit (.bool false)) (litOf x) trivial (ks.map litOf) (.map []) isMap_empty (fun y hy => by obtain ⟨s, _, rfl⟩ := List.mem_map.1 hy; trivial)
  unfold Dt setOf
  rw [h]
  by_cases hx : x ∈ ks
  · rw [if_pos (List.mem_map.2 ⟨x, hx, rfl⟩), (inB_iff ks x).2 hx]
  · rw [if_neg (fun h => by obtain ⟨s, hs, e⟩ := List.mem_map.1 h; rw [litOf_inj e] at hs; exact hx hs)]
    have : inB ks x = false := by
      cases hb : inB ks x with
      | false => rfl
      | true => exact absurd ((inB_iff ks x).1 hb) hx
    rw [this]
    exact atKey_of_not_has rfl _

/-! what is told -/
def tagsTo (l : List S115) (i : Nat) : List ByteArray := (l.take i).map (·.f0)
def fmAt (l : List S115) (i : Nat) : Bool := good (rd_T115 l (i : Int)).f0 && !(inB (tagsTo l i) (rd_T115 l (i : Int)).f0) && decide ((rd_T115 l (i : Int)).f1.length ≤ 1048576)
def fm (l : List S115) : Bool := (List.range l.length).all (fmAt l) && decide (1 ≤ l.length) && decide (l.length ≤ 32)
def fits (l : List S115) : Bool := decide (l.length ≤ 140737488351232) && l.all fun t => decide (t.f0.size ≤ 140737488351232)
def sfnt_Formed.f (l : List S115) : Option Bool := if fits l = true then some (fm l) else none
theorem tagsTo_succ {l : List S115} {j : Nat} (h : j < l.length) : tagsTo l (j + 1) = tagsTo l j ++ [(rd_T115 l (j : Int)).f0] := by
  unfold tagsTo rd_T115
  rw [List.take_succ_eq_append_getElem h, List.map_append]; simp [h]
theorem fm_not {l : List S115} {j : Nat} (h : j < l.length) (hf : fmAt l j = false) : fm l = false := by
  unfold fm
  have : (List.range l.length).all (fmAt l) = false := by
    cases hb : (List.range l.length).all (fmAt l) with
    | false => rfl
    | true => rw [List.all_eq_true] at hb; rw [hb j (List.mem_range.2 h)] at hf; cases hf
  rw [this]; rfl
theorem fm_of {l : List S115} (h : ∀ i, i < l.length → fmAt l i = true) : fm l = (decide (1 ≤ l.length) && decide (l.length ≤ 32)) := by
  unfold fm
  rw [List.all_eq_true.2 (fun i hi => h i (List.mem_range.1 hi))]; simp

structure Ms (w wr : World) (ks : List ByteArray) : Prop where
  own : wr.ownsMap Try.prog 9 (plainElem Try.prog 4) w.heap.size ks.length (Dt ks)
  below : Below w.heap.size w wr
theorem Ms.move {w wr w1 : World} {ks : List ByteArray} (h : Ms w wr ks) (hb : Below wr.heap.size wr w1) : Ms w w1 ks := by
  have hl := h.own.lt
  obtain ⟨es, clock, h1, Ft, hs, hD⟩ := h.own
  exact ⟨⟨es, clock, (hb.block _ hl).trans h1, Ft, hs, hD⟩, h.below.trans (hb.mono h.below.size)⟩
theorem keyedS : Keyed Try.prog 9 := string_keyed Try.underlying9

set_option maxHeartbeats 2000000 in
set_option maxRecDepth 100000 in
theorem sfnt_Formed.calls (A0 : Option Addr) (c0 : Nat) (l0 : List S115) (r : Bool) (w : World) (hr0 : Kd.C k115 w A0 l0.length l0) (hc0 : l0.length ≤ c0) (h : sfnt_Formed.f l0 = some r) :
    Calls Try.prog 42 #[.slice A0 l0.length c0] w fun e w' => e = .returned (.bool r) ∧ Below w.heap.size w w' := by
  obtain ⟨hfit, rfl⟩ : fits l0 = true ∧ fm l0 = r := by
    unfold sfnt_Formed.f at h
    split at h
    · rename_i hf; exact ⟨hf, Option.some.inj h⟩
    · cases h
  simp only [fits, Bool.and_eq_true, decide_eq_true_eq, List.all_eq_true] at hfit
  have HFT := Aside0.mk hfit.2
  have hlen := hfit.1
  have hmm := @run_makeMap Try.prog
  have HR0 := Aside0.mk hr0
  have HMS : Aside0 (Ms w (w.alloc (.map #[] 0)) []) := ⟨⟨World.ownsMap_made _ _ _ _, (Below.refl _ _).alloc (Nat.le_refl _) _⟩⟩
  clear hr0 hc0 h hfit
  go_enter Try.func42, Try.ntmps42
  go_wp2
  go_loopw [9] (fun i wr => ∃ j : Nat, i = .int .i64 (j : Int) ∧ j ≤ l0.length ∧ Aside0 (Ms w wr (tagsTo l0 j)) ∧ Aside0 (∀ i, i < j → fmAt l0 i = true)) (fun i _ => l0.length - (RowKit.intOf i).toNat)
  case atStart => exact ⟨0, rfl, by omega, HMS, ⟨fun i hi => by omega⟩⟩
  case round =>
    obtain ⟨j, rfl, hj, HM, HO⟩ := hrel
    clear HMS
    obtain ⟨wo, rfl⟩ : ∃ wo : World, wo = wr := ⟨_, rfl⟩
    by_cases hlt : j < l0.length
    · obtain ⟨ad, B1, d1, had, hx0, hx1, hlc, hC1⟩ := at_T115 (Kd.C_below HR0.out HM.out.below) (j : Int) (by omega) (by omega)
      subst had
      simp only [Int.toNat_natCast] at hx0 hx1
      have hp : (0 : Int) ≤ (j : Int) := by omega
      have hq : (j : Int) < (l0.length : Int) := by omega
      have hsz : (rd_T115 l0 (j : Int)).f0.size ≤ 140737488351232 := by
        have e : rd_T115 l0 (j : Int) = l0[j] := by simp [rd_T115, hlt]
        rw [e]; exact HFT.out _ (List.getElem_mem hlt)
      have HGD := Aside0.mk (fun W => Good_calls (rd_T115 l0 (j : Int)).f0 W (by omega))
      have HKEY := Aside0.mk (keyOf_string_mk (P := Try.prog) Try.underlying9 (s := (rd_T115 l0 (j : Int)).f0) (by unfold maxLen; omega))
      have HFM := Aside0.mk (show fmAt l0 j = (good (rd_T115 l0 (j : Int)).f0 && !(inB (tagsTo l0 j) (rd_T115 l0 (j : Int)).f0) && decide ((rd_T115 l0 (j : Int)).f1.length ≤ 1048576)) from rfl)
      have HTS := Aside0.mk (tagsTo_succ hlt)
      have HNO := Aside0.mk (fun h => fm_not (l := l0) hlt h)
      have HN : Aside0 ((tagsTo l0 j).length < maxLen) := ⟨by unfold tagsTo; simp; unfold maxLen; omega⟩
      clear hlc hC1 hsz
      obtain ⟨tt, htt⟩ : ∃ tt, rd_T115 l0 (j : Int) = tt := ⟨_, rfl⟩
      rw [htt] at hx0 hx1 HGD HKEY HFM HTS
      clear htt
      obtain ⟨t0, t1⟩ := tt
      have HLK := Aside0.mk (fun (W : World) (h : Ms w W (tagsTo l0 j)) (c : Bool) (hc : inB (tagsTo l0 j) t0 = c) => lookup_bool (t := 127) keyedS Try.underlying127 Try.underlying4 (by rfl) h.own HKEY.out ((Dt_at _ _).trans (by rw [hc])))
      simp only at hx0 hx1
      obtain ⟨gd, hgd⟩ : ∃ gd, good t0 = gd := ⟨_, rfl⟩
      obtain ⟨sn, hsn⟩ : ∃ sn, inB (tagsTo l0 j) t0 = sn := ⟨_, rfl⟩
      simp only [hgd, hsn] at HGD HFM
      have hlk := HLK.out (wo.alloc (.cells #[.string t0, .slice B1 t1.length d1] 115)) (HM.out.move (below_alloc (Below.refl _ _) _)) sn hsn
      have HMA := Aside0.mk (HM.out.move (below_alloc (Below.refl _ _) (.cells #[.string t0, .slice B1 t1.length d1] 115)))
      clear HLK hsn hgd HM
      cases gd with
      | false =>
        have HF := Aside0.mk (HNO.out (by rw [HFM.out]; rfl))
        clear hlk
        go_wp2_with (go_at_call 87; refine (HGD.out _).mono ?_; rintro e w' ⟨rfl, rfl⟩)
        go_ret
        exact ⟨ret_bool (by rw [HF.out]), HMA.out.below⟩
      | true =>
        cases sn with
        | true =>
          have HF := Aside0.mk (HNO.out (by rw [HFM.out]; rfl))
          go_wp2_with (go_at_call 87; refine (HGD.out _).mono ?_; rintro e w' ⟨rfl, rfl⟩)
          go_ret
          exact ⟨ret_bool (by rw [HF.out]), HMA.out.below⟩
        | false =>
          by_cases hc : 1048576 < t1.length
          · have HF := Aside0.mk (HNO.out (by rw [HFM.out, decide_eq_false (by omega)]; rfl))
            go_wp2_with (go_at_call 87; refine (HGD.out _).mono ?_; rintro e w' ⟨rfl, rfl⟩)
            go_ret
            exact ⟨ret_bool (by rw [HF.out]), HMA.out.below⟩
          · have HF := Aside0.mk (show fmAt l0 j = true by rw [HFM.out, decide_eq_true (by omega)]; rfl)
            go_wp2_with (first
              | (go_at_call 87; refine (HGD.out _).mono ?_; rintro e w' ⟨rfl, rfl⟩)
              | (at_mapUpdate; refine wpList_mapUpdate_own _ rfl _ _ _ 127 rfl 9 4 keyedS Try.underlying127 _ w.heap.size _ _ rfl HMA.out.own HN.out _ _ _ rfl rfl HKEY.out _ [] (plainElem_bool Try.underlying4 true) ?_; intro w1 hown1 hgrow1; have HO1 := Aside0.mk hown1; have HG1 := Aside0.mk hgrow1; clear hown1 hgrow1))
            go_roundw
            case rel => exact ⟨j + 1, by go_num, by omega, ⟨by
              rw [HTS.out]
              exact ⟨by rw [Dt_snoc, List.length_append]; exact HO1.out, HMA.out.below.grown HG1.out HMA.out.below.size (fun k hk => by cases hk; exact Nat.le_refl _)⟩⟩, ⟨fun i hi => by
              rcases Nat.lt_or_ge i j with h1 | h1
              · exact HO.out i h1
              · rw [show i = j by omega]; exact HF.out⟩⟩
            case measure => simp [RowKit.intOf]; omega
    · obtain rfl : j = l0.length := by omega
      have HF := Aside0.mk (fm_of HO.out)
      clear HO
      by_cases h1 : 1 ≤ l0.length
      · go_wp2
        go_ret
        exact ⟨ret_bool (by rw [HF.out, decide_eq_true h1]; simp; try omega), HM.out.below⟩
      · go_wp2
        go_ret
        exact ⟨ret_bool (by rw [HF.out, decide_eq_false h1]; simp; try omega), HM.out.below⟩
end Go.Proofs.Ytmppdgjnibamlab.Pag

/-! The order of tags. Plain. -/
namespace Go.Proofs.Ytmppdgjnibamlab.Pag
open Go.RowKit Go.Proofs.Ytmppdgjnibamlab.PSf Go.Proofs.YtmppdgjnibamlabW.PrintWords

theorem bl_cons (a b : UInt8) (x y : List UInt8) : Op.bytesLess (a :: x) (b :: y) = (decide (a.toNat < b.toNat) || (decide (a.toNat = b.toNat) && Op.bytesLess x y)) := by
  rw [Op.bytesLess]
  by_cases h1 : a.toNat < b.toNat
  · simp [h1, UInt8.lt_iff_toNat_lt]
  · by_cases h2 : a.toNat = b.toNat
    · have : a = b := UInt8.toNat_inj.1 h2
      subst this; simp
    · have : a ≠ b := fun h => h2 (by rw [h])
      simp [h1, h2, this, UInt8.lt_iff_toNat_lt]
theorem bl_irrefl : ∀ x : List UInt8, Op.bytesLess x x = false
  | [] => by rw [Op.bytesLess]
  | a :: x => by rw [bl_cons, bl_irrefl x]; simp
theorem bl_trans : ∀ x y z : List UInt8, Op.bytesLess x y = true → Op.bytesLess y z = true → Op.bytesLess x z = true
  | [], [], z, h, _ => by simp [Op.bytesLess] at h
  | [], _ :: _, [], _, h => by simp [Op.bytesLess] at h
  | [], _ :: _, _ :: _, _, _ => by simp [Op.bytesLess]
  | _ :: _, [], z, h, _ => by simp [Op.bytesLess] at h
  | _ :: _, _ :: _, [], _, h => by simp [Op.bytesLess] at h
  | a :: x, b :: y, c :: z, h1, h2 => by
    rw [bl_cons] at *
    simp only [Bool.or_eq_true, Bool.and_eq_true, decide_eq_true_eq] at *
    rcases h1 with h1 | ⟨h1, h3⟩ <;> rcases h2 with h2 | ⟨h2, h4⟩
    · exact .inl (by omega)
    · exact .inl (by omega)
    · exact .inl (by omega)
    · exact .inr ⟨by omega, bl_trans x y z h3 h4⟩
theorem bl_tri : ∀ x y : List UInt8, Op.bytesLess x y = false → Op.bytesLess y x = false → x = y
  | [], [], _, _ => rfl
  | [], _ :: _, h, _ => by simp [Op.bytesLess] at h
  | _ :: _, [], _, h => by simp [Op.bytesLess] at h
  | a :: x, b :: y, h1, h2 => by
    rw [bl_cons] at *
    simp only [Bool.or_eq_false_iff, Bool.and_eq_false_iff, decide_eq_false_iff_not] at *
    have e : a.toNat = b.toNat := by omega
    rw [UInt8.toNat_inj.1 e, bl_tri x y (by rcases h1.2 with h | h; exact absurd e h; exact h) (by rcases h2.2 with h | h; exact absurd e.symm h; exact h)]
/-- Does one tag stand before another? -/
def bef (a b : ByteArray) : Bool := Op.bytesLess a.toList b.toList
theorem toList_inj {a b : ByteArray} (h : a.toList = b.toList) : a = b := by
  rw [ByteArray.toList_eq, ByteArray.toList_eq] at h
  exact ByteArray.ext (Array.toList_inj.1 h)
theorem bef_irrefl (a : ByteArray) : bef a a = false := bl_irrefl _
theorem bef_trans {a b c : ByteArray} (h1 : bef a b = true) (h2 : bef b c = true) : bef a c = true := bl_trans _ _ _ h1 h2
theorem bef_tri {a b : ByteArray} (h1 : bef a b = false) (h2 : bef b a = false) : a = b := toList_inj (bl_tri _ _ h1 h2)
theorem bef_ntrans {a b c : ByteArray} (h1 : bef a b = false) (h2 : bef b c = false) : bef a c = false := by
  cases h : bef a c with
  | false => rfl
  | true =>
    cases h3 : bef b a with
    | true => exact absurd (bef_trans h3 h) (by rw [h2]; simp)
    | false => rw [bef_tri h1 h3, h2] at h; cases h
/-- The tables by their tags. -/
def ins (x : S115) : List S115 → List S115
  | [] => [x]
  | y :: r => if bef y.f0 x.f0 = true then y :: ins x r else x :: y :: r
def sortT (l : List S115) : List S115 := l.foldr ins []
theorem ins_perm (x : S115) : ∀ l, (ins x l).Perm (x :: l)
  | [] => List.Perm.refl _
  | y :: r => by
    unfold ins
    split
    · exact ((ins_perm x r).cons y).trans (List.Perm.swap x y r)
    · exact List.Perm.refl _
theorem sortT_perm : ∀ l, (sortT l).Perm l
  | [] => List.Perm.refl _
  | x :: r => (ins_perm x _).trans ((sortT_perm r).cons x)
theorem ins_sorted (x : S115) : ∀ l, l.Pairwise (fun a b => bef b.f0 a.f0 = false) → (ins x l).Pairwise (fun a b => bef b.f0 a.f0 = false)
  | [], _ => by simp [ins]
  | y :: r, h => by
    obtain ⟨h1, h2⟩ := List.pairwise_cons.1 h
    unfold ins
    split
    · rename_i hb
      refine List.pairwise_cons.2 ⟨fun z hz => ?_, ins_sorted x r h2⟩
      rcases List.mem_cons.1 ((ins_perm x r).mem_iff.1 hz) with rfl | hz
      · cases hq : bef z.f0 y.f0 with
        | false => rfl
        | true => exact absurd (bef_trans hb hq) (by rw [bef_irrefl]; simp)
      · exact h1 z hz
    · rename_i hb
      have hb' : bef y.f0 x.f0 = false := by simpa using hb
      refine List.pairwise_cons.2 ⟨fun z hz => ?_, h⟩
      rcases List.mem_cons.1 hz with rfl | hz
      · exact hb'
      · exact bef_ntrans (h1 z hz) hb'
theorem sortT_sorted : ∀ l, (sortT l).Pairwise (fun a b => bef b.f0 a.f0 = false)
  | [] => List.Pairwise.nil
  | x :: r => ins_sorted x _ (sortT_sorted r)
/-- The tags differ. -/
def apart (l : List S115) : Prop := l.Pairwise (fun a b => a.f0 ≠ b.f0)
theorem apart_eq {l : List S115} (h : apart l) {a b : S115} (ha : a ∈ l) (hb : b ∈ l) (e : a.f0 = b.f0) : a = b := by
  induction l with
  | nil => cases ha
  | cons x r ih =>
    obtain ⟨h1, h2⟩ := List.pairwise_cons.1 h
    rcases List.mem_cons.1 ha with ea | ha' <;> rcases List.mem_cons.1 hb with eb | hb'
    · rw [ea, eb]
    · exact absurd (ea ▸ e) (h1 b hb')
    · exact absurd (eb ▸ e.symm) (h1 a ha')
    · exact ih h2 ha' hb'
/-- There is but one rising order of tables whose tags differ. -/
theorem sorted_eq {l m : List S115} (hp : m.Perm l) (hm : m.Pairwise (fun a b => bef b.f0 a.f0 = false)) (ha : apart l) : m = sortT l := by
  refine List.Perm.eq_of_pairwise (le := fun a b => bef b.f0 a.f0 = false) (fun a b h1 h2 h3 h4 => ?_) hm (sortT_sorted l) (hp.trans (sortT_perm l).symm)
  exact apart_eq ha (hp.mem_iff.1 h1) ((sortT_perm l).mem_iff.1 h2) (bef_tri h4 h3)
theorem fm_apart {l : List S115} (h : fm l = true) : apart l := by
  simp only [fm, Bool.and_eq_true, List.all_eq_true, List.mem_range] at h
  unfold apart
  rw [List.pairwise_iff_getElem]
  intro i j hi hj hij e
  have h1 := h.1.1 j hj
  simp only [fmAt, Bool.and_eq_true, Bool.not_eq_true'] at h1
  have h2 : inB (tagsTo l j) (rd_T115 l (j : Int)).f0 = true := by
    rw [inB_iff]
    have e2 : rd_T115 l (j : Int) = l[j] := by simp [rd_T115, hj]
    rw [e2, ← e]
    unfold tagsTo
    refine List.mem_map.2 ⟨l[i], ?_, rfl⟩
    rw [List.mem_take_iff_getElem]
    exact ⟨i, by omega, rfl⟩
  rw [h2] at h1
  simp at h1
end Go.Proofs.Ytmppdgjnibamlab.Pag
