/- The document's answer to chapter 9: Set. -/
import Derived.Test.YtgjabgneapdbiaaTrieDoc
import Derived.Test.YtgjabgneapdbiaaBase
namespace Go.Proofs.Ytgjabgneapdbiaa
open Go.RowKit Go.BigFrame
set_option linter.unusedSimpArgs false
set_option linter.unusedVariables false
attribute [local irreducible] wpMix wpAnyG

theorem own_dropO {α : Type} {w : World} {e : TypeId} {N : Nat} {cells : α → List Value} (hN : ∀ x, (cells x).length = N) {g sl sc c : Nat} {l : List α} (h : OwnL w e N cells ⟨some ⟨g, 0, none⟩, sl, sc⟩ l) (j n o : Nat) (hj : j ≤ l.length) (hn : n = l.length - j) (ho : o = j * N) : SlOf w N cells (fun _ => True) ⟨some ⟨g, o, none⟩, n, c⟩ (l.drop j) := by
  subst ho
  exact own_dropG hN h j n hj hn
theorem own_shape3 {α : Type} {w : World} {e : TypeId} {N : Nat} {cells : α → List Value} {sa : Option Addr} {sl sc : Nat} {l : List α} (h : OwnL w e N cells ⟨sa, sl, sc⟩ l) (i : Nat) : (sa = none ∧ sl = 0 ∧ sc = 0) ∨ (∃ g, sa = some ⟨g, 0, none⟩ ∧ i = sc) ∨ ∃ g, sa = some ⟨g, 0, none⟩ ∧ ¬ i = sc := by
  rcases own_shapeG h with h | ⟨g, h⟩
  · exact .inl h
  · by_cases e : i = sc
    · exact .inr (.inl ⟨g, h, e⟩)
    · exact .inr (.inr ⟨g, h, e⟩)
theorem flat_put {l : List EntM} {i : Nat} {x y : EntM} (hx : l[i]? = some x) (hp : pcE y = pcE x) : (l.set i y).flatMap pcE = l.flatMap pcE := by
  induction l generalizing i with
  | nil => simp at hx
  | cons a t ih =>
    cases i with
    | zero =>
      simp only [List.getElem?_cons_zero, Option.some.injEq] at hx
      subst hx
      simp [hp]
    | succ i =>
      simp only [List.getElem?_cons_succ] at hx
      simp [ih hx]
theorem own_put {w : World} {s : SlV} {l : List EntM} (h : OwnP w s l) {i : Nat} {x y : EntM} (hx : l[i]? = some x) (hp : pcE y = pcE x) : OwnP w s (l.set i y) := by
  obtain ⟨h1, h2⟩ := h
  refine ⟨by rw [List.length_set]; exact h1, ?_⟩
  rcases h2 with h2 | ⟨g, junk, ha, hb, hl, r⟩
  · exact .inl h2
  · exact .inr ⟨g, junk, ha, by rw [flat_put hx hp]; exact hb, by rw [flat_put hx hp]; exact hl, r⟩

theorem one_int (w : World) (p : PrefixM) (v : Int) : SlOf (w.alloc (.cells #[.int .i64 v] 3)) 1 vcE (fun _ => True) ⟨some ⟨w.heap.size, 0, none⟩, 1, 1⟩ [(⟨p, v⟩ : EntM)] :=
  slof_blk (xs := [(⟨p, v⟩ : EntM)]) (junk := []) vcE_length (show Blk _ _ ([(⟨p, v⟩ : EntM)].flatMap vcE ++ []).toArray 3 from Blk.alloc_new _ _ _) (fun _ _ => trivial) 1 (by show 1 ≤ maxLen; decide)

set_option maxRecDepth 100000 in
set_option maxHeartbeats 4000000 in
theorem doc_set (w : World) (F : Nat → Prop) (g : Nat) (ty : TypeId) (rest : List Value) (l : List EntM) (h : DocT w F g ty rest l) (hm : l.length < 1000) (p : PrefixM) (hp : p.wf) (v : Int) :
    Calls Try.prog 36 #[.pointer (some ⟨g, 0, none⟩), .agg p.cells.toArray, .int .i64 v] w (DocTo w F g ty rest (setX l p v).l (.int .i64 (setX l p v).e)) := by
  have H := hide h
  have hgl := h.lt g h.here
  clear h
  go_enter Try.func36, Try.ntmps36
  go_upto_region 1 with (fail)
  refine wp_gen (fun W => CellsAt W w.heap.size 0 p.cells ∧ Fr noB w W ∧ W.heap.size = w.heap.size + 1) ⟨by (repeat (first | assumption | exact cells_new _ _ _ (by simp) | refine CellsAt.alloc ?_ _ | refine CellsAt.drew ?_ | refine CellsAt.drewN ?_ _)), (Fr.refl _ _).alloc _, by simp⟩ ?_
  rintro w1 ⟨hc, hf, hw1⟩
  have Hc := hide hc; have Hf := hide hf
  clear hf
  go_wp2_with (refine wpList_load_at rfl 28 _ rfl _ _ rfl (PrefixM.cells _) (by (repeat (first | assumption | exact cells_new _ _ _ (by simp) | refine CellsAt.alloc ?_ _ | refine CellsAt.drew ?_ | refine CellsAt.drewN ?_ _))) _ Try.underlying28 rfl (by kernel_rfl) ?_)
  refine (ref3_Is p hp _).mono ?_
  rintro e w2 ⟨rfl, hf2⟩
  have Hf2 := hide (Hf.out.tr hf2); have hc2 : CellsAt w2 w.heap.size 0 p.cells := Hc.out.fr hf2 (fun h => h)
  have Hc2 := hide hc2
  have hw2 : w.heap.size < w2.heap.size := by have := hf2.size; omega
  clear hf2 hc hw1
  by_cases his : ¬ p = normP p
  · have HA := hide (show setX l p v = ⟨1, l⟩ from by unfold setX; rw [if_neg his])
    rw [decide_eq_false his]
    clear his hc2
    go_wp2_with fail
    go_ret
    unfold DocTo
    rw [HA.out]
    exact ⟨rfl, H.out.same Hf2.out⟩
  have HA0 := hide (show setX l p v = ⟨0, putE l p v⟩ from by unfold setX; rw [if_pos (Classical.not_not.1 his)])
  rw [decide_eq_true (Classical.not_not.1 his)]
  clear his
  go_wp2_with (refine wpList_load_at rfl 28 _ rfl _ _ rfl (PrefixM.cells _) (by (repeat (first | assumption | exact cells_new _ _ _ (by simp) | refine CellsAt.alloc ?_ _ | refine CellsAt.drew ?_ | refine CellsAt.drewN ?_ _))) _ Try.underlying28 rfl (by kernel_rfl) ?_)
  refine (doc_place w2 F g ty rest l (H.out.frN Hf2.out) p).mono ?_
  rintro e w3 ⟨rfl, hf3⟩
  have Hf3 := hide (Hf2.out.tr hf3)
  have Hc3 := hide (Hc2.out.fr hf3 (fun h => h))
  have hw3 : w.heap.size < w3.heap.size := by have := hf3.size; omega
  clear hf3 hc2
  obtain ⟨⟨⟨pa, pl, pc⟩, ⟨va, vl, vc⟩, hblk, hop, hov, hFp, hFv⟩, _⟩ := H.out.frN Hf3.out
  have hpl : pl = l.length := hop.1
  have hvl : vl = l.length := hov.1
  have hmax : pl ≤ 1000 := by omega
  have hvmax : vl ≤ 1000 := by omega
  have hplc : pl ≤ pc := own_capG hop
  have hvlc : vl ≤ vc := own_capG hov
  have HFv := hide hFv; have HFp := hide hFp
  have Hnp := hide hop.nilcap; have Hnv := hide hov.nilcap
  have Hblk := hide hblk; have Hop := hide hop; have Hov := hide hov
  clear hblk hop hov hFv hFp
  unfold searchE
  have hple := posE_le l p
  cases hh : hasE l p with
  | true =>
    obtain ⟨x, hx, hxp⟩ := hasE_some hh
    have HA := hide (show putE l p v = l.set (posE l p) ⟨p, v⟩ from by unfold putE; rw [hh]; rfl)
    have hilt := hasE_lt hh
    generalize posE l p = i at *
    clear hh
    have hil : i < vl := by omega
    obtain ⟨gv, rfl, _, hcv, _⟩ := own_at Hov.out vcE_length hx
    have Hx := hide hx; have Hxp := hide hxp
    have c1 : w3.cell? ⟨g, 1, none⟩ = some (.slice (some ⟨gv, 0, none⟩) vl vc) := by rw [Hblk.out.cell 1]; rfl
    have hmul : ((i : Int) * 1).toNat = i := by omega
    have hmul1 : (i : Int).toNat = i := by omega
    have cv : w3.cell? ⟨gv, i, none⟩ = some (.int .i64 x.v) := by have := hcv 0 _ rfl; simpa using this
    obtain ⟨_, _, e1, hbv, _⟩ := Hov.out.2.resolve_left (fun h => by simp at h)
    simp only [Option.some.injEq, Addr.mk.injEq, and_true] at e1
    subst e1
    have zv : w3.frozen? ⟨gv, i, none⟩ = false := hbv.free i
    have hgv : gv < w3.heap.size := hbv.lt
    have Hpl := hide hpl; have Hvl := hide hvl
    clear hx hxp hcv hbv hpl hvl
    go_wp2_with fail
    go_ret
    unfold DocTo
    rw [HA0.out, HA.out]
    have hFgv : F gv := HFv.out gv ⟨_, rfl, rfl⟩
    have hFR : Fr F w (w3.setCell ⟨gv, i, none⟩ (.int .i64 v)) := ((Hf3.out.mono (fun _ _ h => h.elim)).setCell (.inr hFgv) _)
    have h1 : Fr (oneB gv) w3 (w3.setCell ⟨gv, i, none⟩ (.int .i64 v)) := (Fr.refl (oneB gv) w3).setCell (p := ⟨gv, i, none⟩) (.inr rfl) _
    have hgne : ¬ oneB gv g := fun e => by
      unfold oneB at e
      subst e
      exact own_ne_blk Hblk.out Hov.out H.out.tys.2 ⟨_, rfl, rfl⟩
    have hov2 : OwnV (w3.setCell ⟨gv, i, none⟩ (.int .i64 v)) ⟨some ⟨gv, 0, none⟩, vl, vc⟩ (l.set i ⟨p, v⟩) := by
      have := Hov.out.setField vcE_length rfl Hx.out (x' := ⟨p, v⟩) (j := 0) (u := .int .i64 v) (by omega) (by rfl)
      simpa using this
    refine ⟨rfl, doc_blk H.out (sp := ⟨pa, pl, pc⟩) (sv := ⟨some ⟨gv, 0, none⟩, vl, vc⟩) (Hblk.out.fr h1 hgne) (own_put (Hop.out.fr h1 (fun b hb e => by unfold oneB at e; subst e; exact own_ne_own Hop.out Hov.out (by decide) b hb ⟨_, rfl, rfl⟩)) Hx.out (by unfold pcE; rw [Hxp.out])) hov2 hFR (fun b hb => ?_) (fun b hb => ?_) (by rw [List.length_set]; exact H.out.len), hFR⟩
    · exact .inl (HFp.out b hb)
    · exact .inl (HFv.out b hb)
  | false =>
    have HA := hide (show putE l p v = (l.take (posE l p) ++ [⟨p, v⟩]) ++ l.drop (posE l p) from by unfold putE; rw [hh]; simp)
    generalize posE l p = i at *
    clear hh
    have hip : i ≤ pl := by omega
    have hiv : i ≤ vl := by omega
    have hipc : i ≤ pc := by omega
    have hivc : i ≤ vc := by omega
    have Hpl := hide hpl; have Hvl := hide hvl
    clear hpl hvl
    go_upto_region 7 with (fail)
    have hg3 : ∀ z : Grow w3, z.v.cell? ⟨g, 0, none⟩ = some (.slice pa pl pc) := fun z => by rw [(Hblk.out.fr z.fr (fun h => h)).cell 0]; rfl
    refine any_start (fun W => ∃ z : Grow w3, W = z.v) 12 rfl (by kernel_rfl) (inGrow (Fr.refl _ _).drew) ?_
    intro L hL hleaf
    have hS : ∃ z : Grow w3, w3.drew = z.v := inGrow (Fr.refl _ _).drew
    (refine any_calm 1 (by assumption) (by simp only [List.getElem?_toArray, List.getElem?_cons_succ, List.getElem?_cons_zero]; exact rfl) (by kernel_rfl) (by kernel_rfl) (by kernel_rfl) (by kernel_rfl) (by assumption) (by rfl) (by rfl) (fun K hK => ?_); go_big_quiet_op; refine hK _ ?_; clear hK K)
    (refine any_calm 2 (by assumption) (by simp only [List.getElem?_toArray, List.getElem?_cons_succ, List.getElem?_cons_zero]; exact rfl) (by kernel_rfl) (by kernel_rfl) (by kernel_rfl) (by kernel_rfl) (by assumption) (by rfl) (by rfl) (fun K hK => ?_); go_big_quiet_op; refine hK _ ?_; clear hK K)
    (refine any_calm 3 (by assumption) (by simp only [List.getElem?_toArray, List.getElem?_cons_succ, List.getElem?_cons_zero]; exact rfl) (by kernel_rfl) (by kernel_rfl) (by kernel_rfl) (by kernel_rfl) (by assumption) (by rfl) (by rfl) (fun K hK => ?_); go_big_quiet_op; refine hK _ ?_; clear hK K)
    (refine any_calm 4 (by assumption) (by simp only [List.getElem?_toArray, List.getElem?_cons_succ, List.getElem?_cons_zero]; exact rfl) (by kernel_rfl) (by kernel_rfl) (by kernel_rfl) (by kernel_rfl) (by assumption) (by rfl) (by rfl) (fun K hK => ?_); go_big_quiet_op; refine hK _ ?_; clear hK K)
    (refine any_calm 5 (by assumption) (by simp only [List.getElem?_toArray, List.getElem?_cons_succ, List.getElem?_cons_zero]; exact rfl) (by kernel_rfl) (by kernel_rfl) (by kernel_rfl) (by kernel_rfl) (by assumption) (by rfl) (by rfl) (fun K hK => ?_); go_big_quiet_op; refine hK _ ?_; clear hK K)
    (refine any_calm 6 (by assumption) (by simp only [List.getElem?_toArray, List.getElem?_cons_succ, List.getElem?_cons_zero]; exact rfl) (by kernel_rfl) (by kernel_rfl) (by kernel_rfl) (by kernel_rfl) (by assumption) (by rfl) (by rfl) (fun K hK => ?_); go_big_quiet_op; refine hK _ ?_; clear hK K)
    refine any_load_at 8 hL (by simp only [List.getElem?_toArray, List.getElem?_cons_succ, List.getElem?_cons_zero]; exact rfl) (by kernel_rfl) (by kernel_rfl) (by kernel_rfl) (by kernel_rfl) hS (by rfl) 28 (.tmp 4) (by rfl) w.heap.size 0 (by rfl) p.cells ?hc _ Try.underlying28 rfl (by kernel_rfl) ?_
    case hc => rintro _ ⟨z, rfl⟩; exact Hc3.out.fr z.fr (fun h => h)
    simp only [Act.put, List.setIfInBounds_toArray, List.set_cons_succ, List.set_cons_zero]
    refine any_app2 (w0 := w3) (N := 2) (cells := pcE) (ok := fun _ => True) (q := ⟨pa, i, pc⟩) (ys := l.take i) 0 7 9 10 28 35 37 38 34 36 rfl rfl rfl rfl rfl rfl rfl rfl rfl rfl rfl rfl rfl rfl rfl rfl
      (by kernel_rfl) (by kernel_rfl) (by kernel_rfl) (by kernel_rfl) (by kernel_rfl) (by kernel_rfl) (by decide) (by simp) (by simp) (by simp) Try.underlying41 _ 16 pfx_info (by kernel_rfl) (by decide) (by decide) pcE_length pcE_mem
      ⟨p, v⟩ trivial (by kernel_rfl) rfl rfl (fun W hW => SlOf.fr (own_takeG pcE_length Hop.out i pc hple) hW (fun _ _ h => h) (fun _ h => h)) (fun h => by have := Hnp.out h; simp only [SlV.mk.injEq] at this; exact this.2.2) (by simp [List.length_take]; omega) (by simp [List.length_take, maxLen]; omega) (Fr.refl _ _).drew ?_
    intro v0 v1 v2 s9 w9 hn9 hf9
    simp only [Act.put, List.setIfInBounds_toArray, List.set_cons_succ, List.set_cons_zero]
    have hS : ∃ z : Grow w3, w9 = z.v := inGrow hf9
    (refine any_calm 11 (by assumption) (by simp only [List.getElem?_toArray, List.getElem?_cons_succ, List.getElem?_cons_zero]; exact rfl) (by kernel_rfl) (by kernel_rfl) (by kernel_rfl) (by kernel_rfl) (by assumption) (by rfl) (by rfl) (fun K hK => ?_); go_big_quiet_op; refine hK _ ?_; clear hK K)
    refine any_leaf (hleaf _ _ _ (by kernel_rfl) ?_)
    have Hn9 := hide hn9; have Hf9 := hide hf9
    clear hL hleaf hS hn9 hf9 hg3
    obtain ⟨s9a, s9l, s9c⟩ := s9
    have hg9 : g < w9.heap.size := (Hblk.out.fr Hf9.out (fun h => h)).lt
    have c9 : w9.cell? ⟨g, 1, none⟩ = some (.slice va vl vc) := by rw [(Hblk.out.fr Hf9.out (fun h => h)).cell 1]; rfl
    go_upto_region 9 with (first
      | (refine wpList_build0 rfl 48 rfl Try.underlying48 (by kernel_rfl) ?_)
      | (refine wpList_append_newD (w0 := w9) (N := 1) (cells := vcE) (xs := []) (s := ⟨some ⟨w9.heap.size, 0, none⟩, 0, 0⟩) (q := ⟨va, i, vc⟩) (ys := l.take i) (ok := fun _ => True) rfl (.tmp 39) (.tmp 45) 48 rfl Try.underlying48 _ 8 int_info (by kernel_rfl) (by decide) vcE_length vcE_mem rfl (NewL.zero _ _ (Fr.refl _ _) _ _ _) ((Fr.refl _ _).alloc _) rfl (SlOf.fr (own_takeG vcE_length Hov.out i vc hple) (Hf9.out.alloc _) (fun _ _ h => h) (fun _ h => h)) (fun h => by have := Hnv.out h; simp only [SlV.mk.injEq] at this; exact this.2.2) (by simp [List.length_take, maxLen]; omega) (by simp [List.length_take]; omega) ?_
         intro s10 w10 hn10 hf10 _ _
         have Hn10 := hide (show NewL w9 w10 3 1 vcE s10 (l.take i) from by simpa using hn10)
         have Hf10 := hide hf10
         clear hn10 hf10
         obtain ⟨s10a, s10l, s10c⟩ := s10)
      | (refine wpList_buildSlice rfl 48 1 #[(0, .tmp 47)] rfl #[(0, .int .i64 v)] rfl Try.underlying48 (.int .i64 0) 1 (by kernel_rfl) #[.int .i64 v] (by decide) (by decide) (by kernel_rfl) ?_)
      | (refine wpList_append_newD (w0 := w9) (N := 1) (cells := vcE) (xs := l.take i) (s := ⟨s10a, s10l, s10c⟩) (q := ⟨some ⟨w10.heap.size, 0, none⟩, 1, 1⟩) (ys := [⟨p, v⟩]) (ok := fun _ => True) rfl (.tmp 46) (.tmp 48) 48 rfl Try.underlying48 _ 8 int_info (by kernel_rfl) (by decide) vcE_length vcE_mem rfl (Hn10.out.fr ((Fr.refl _ _).alloc _)) (Hf10.out.alloc _) rfl (one_int _ p v) (fun h => by cases h) (by simp [List.length_take, maxLen]; omega) (by simp [List.length_take]; omega) ?_
         intro s11 w11 hn11 hf11 _ _
         have Hn11 := hide hn11
         have Hf11 := hide hf11
         clear hn11 hf11
         obtain ⟨s11a, s11l, s11c⟩ := s11))
    have Hf11' := hide (Hf9.out.tr Hf11.out)
    have Hn9' : Hid (NewL w3 w11 28 2 pcE ⟨s9a, s9l, s9c⟩ (l.take i ++ [⟨p, v⟩])) := hide (Hn9.out.fr Hf11.out)
    have Hn11' : Hid (NewL w3 w11 3 1 vcE ⟨s11a, s11l, s11c⟩ (l.take i ++ [⟨p, v⟩])) := hide ⟨Hn11.out.1, fun b hb => Nat.le_trans Hf9.out.size (Hn11.out.2 b hb)⟩
    have hg3 : ∀ z : Grow w3, z.v.cell? ⟨g, 0, none⟩ = some (.slice pa pl pc) := fun z => by rw [(Hblk.out.fr z.fr (fun h => h)).cell 0]; rfl
    have hg4 : ∀ z : Grow w3, z.v.cell? ⟨g, 1, none⟩ = some (.slice va vl vc) := fun z => by rw [(Hblk.out.fr z.fr (fun h => h)).cell 1]; rfl
    have hgw : g < w3.heap.size := Hblk.out.lt
    have hmp : ((i : Int) * 2).toNat = i * 2 := by omega
    have hmv : ((i : Int) * 1).toNat = i * 1 := by omega
    clear c9 hg9 Hn9 Hf9 Hn10 Hf10 Hn11 Hf11
    have sh1 := own_shape3 Hop.out i
    have sh2 := own_shape3 Hov.out i
    rcases sh1 with ⟨rfl, rfl, rfl⟩ | ⟨gp, rfl, hp1⟩ | ⟨gp, rfl, hp1⟩
    all_goals rcases sh2 with ⟨rfl, rfl, rfl⟩ | ⟨gv, rfl, hv1⟩ | ⟨gv, rfl, hv1⟩
    all_goals
      refine wp_region_mix3 20 (fun W => ∃ z : Grow w3, W = z.v) (by kernel_rfl) (by kernel_rfl) (inGrow Hf11'.out.drew) (.tmp 0) (.tmp 0) (.pointer (some ⟨g, 0, none⟩)) (.pointer (some ⟨g, 0, none⟩)) rfl rfl rfl rfl rfl rfl ?_
      simp only [List.take_succ_cons, List.take_zero, List.drop_succ_cons, List.drop_zero]
      simp only [Act.put, List.setIfInBounds_toArray, List.set_cons_succ, List.set_cons_zero]
      iterate 7 (first | (refine wpMix_skip rfl ?_; simp only [Act.put, List.setIfInBounds_toArray, List.set_cons_succ, List.set_cons_zero]) | (refine wpMix_calm rfl rfl (fun K hK => ?_); go_big_quiet_op; refine hK _ ?_; clear hK K))
      refine wpMix_append_new (w0 := w3) (N := 2) (cells := pcE) (xs := l.take i ++ [⟨p, v⟩]) (s := ⟨s9a, s9l, s9c⟩) (q := ⟨_, _, _⟩) (ys := l.drop i) (ok := fun _ => True) rfl (.tmp 52) (.tmp 58) 41 rfl Try.underlying41 _ 16 pfx_info (by kernel_rfl) (by decide) pcE_length pcE_mem rfl (Hn9'.out.fr (Fr.refl _ _).drew) Hf11'.out.drew rfl (by first | exact own_dropO pcE_length (Hop.out.fr Hf11'.out.drew (fun _ _ h => h)) _ _ _ (by omega) (by have := Hpl.out; omega) (by omega) | exact own_endG _ _ _ _ (by have := Hpl.out; omega) (by have := Hpl.out; omega)) (fun h => by first | (cases h; done) | rfl | omega) (by have := Hpl.out; simp [maxLen, List.length_take, List.length_drop]; omega) (by have := Hpl.out; simp [List.length_take, List.length_drop]; omega) ?_
      intro s12 w12 hn12 hf12 hf12'
      have Hn12 := hide hn12; have Hf12 := hide hf12
      have Hn11b := hide ((Hn11'.out.fr (Fr.refl _ _).drew).frS hf12' (fun b hb => own_ne_own Hn11'.out.1 Hn9'.out.1 (by decide) b hb))
      clear hn12 hf12 hf12'
      obtain ⟨s12a, s12l, s12c⟩ := s12
      simp only [Act.put, List.setIfInBounds_toArray, List.set_cons_succ, List.set_cons_zero]
      iterate 7 (first | (refine wpMix_skip rfl ?_; simp only [Act.put, List.setIfInBounds_toArray, List.set_cons_succ, List.set_cons_zero]) | (refine wpMix_calm rfl rfl (fun K hK => ?_); go_big_quiet_op; refine hK _ ?_; clear hK K))
      refine wpMix_append_new (w0 := w3) (N := 1) (cells := vcE) (xs := l.take i ++ [⟨p, v⟩]) (s := ⟨s11a, s11l, s11c⟩) (q := ⟨_, _, _⟩) (ys := l.drop i) (ok := fun _ => True) rfl (.tmp 60) (.tmp 66) 48 rfl Try.underlying48 _ 8 int_info (by kernel_rfl) (by decide) vcE_length vcE_mem rfl Hn11b.out Hf12.out rfl (by first | exact own_dropO vcE_length (Hov.out.fr Hf12.out (fun _ _ h => h)) _ _ _ (by omega) (by have := Hvl.out; omega) (by omega) | exact own_endG _ _ _ _ (by have := Hvl.out; omega) (by have := Hvl.out; omega)) (fun h => by first | (cases h; done) | rfl | omega) (by have := Hpl.out; simp [maxLen, List.length_take, List.length_drop]; omega) (by have := Hpl.out; simp [List.length_take, List.length_drop]; omega) ?_
      intro s13 w13 hn13 hf13 hf13'
      have Hn13 := hide hn13; have Hf13 := hide hf13
      have Hn12b := hide (Hn12.out.frS hf13' (fun b hb => own_ne_own Hn12.out.1 Hn11b.out.1 (by decide) b hb))
      clear hn13 hf13 hf13'
      obtain ⟨s13a, s13l, s13c⟩ := s13
      simp only [Act.put, List.setIfInBounds_toArray, List.set_cons_succ, List.set_cons_zero]
      repeat (first | (refine wpMix_skip rfl ?_; simp only [Act.put, List.setIfInBounds_toArray, List.set_cons_succ, List.set_cons_zero]) | (refine wpMix_calm rfl rfl (fun K hK => ?_); go_big_quiet_op; refine hK _ ?_; clear hK K))
      refine wpMix_nil ?_
      clear hg3 hg4
      have Hblk13 := hide (Hblk.out.fr Hf13.out (fun h => h))
      have c13 := Hblk13.out.cell 0
      simp only [List.getElem?_toArray, List.getElem?_cons_zero] at c13
      have z13 : w13.frozen? ⟨g, 0, none⟩ = false := Hblk13.out.free 0
      have hg13 : g < w13.heap.size := Hblk13.out.lt
      go_wp2_with fail
      have Hblk14 := hide (Hblk13.out.set 0 (.slice s12a s12l s12c))
      have Hf14 := hide (show Fr (oneB g) w13 (w13.setCell ⟨g, 0, none⟩ (.slice s12a s12l s12c)) from (Fr.refl (oneB g) _).setCell (p := ⟨g, 0, none⟩) (.inr rfl) _)
      generalize w13.setCell ⟨g, 0, none⟩ (.slice s12a s12l s12c) = w14 at *
      refine ⟨(fun _ => True), trivial, ?_⟩
      clear c13 z13 hg13
      have c14 := Hblk14.out.cell 1
      simp only [List.setIfInBounds_toArray, List.set_cons_zero, List.getElem?_toArray, List.getElem?_cons_zero, List.getElem?_cons_succ] at c14
      have z14 : w14.frozen? ⟨g, 1, none⟩ = false := Hblk14.out.free 1
      have hg14 : g < w14.heap.size := Hblk14.out.lt
      iterate 2 (first | (refine wpMix_skip rfl ?_; simp only [Act.put, List.setIfInBounds_toArray, List.set_cons_succ, List.set_cons_zero]) | (refine wpMix_calm rfl rfl (fun K hK => ?_); go_big_quiet_op; refine hK _ ?_; clear hK K))
      refine wpMix_spine rfl rfl (fun K hK => ?_); go_wp2_with fail
      refine hK _ _ rfl trivial ?_
      clear hK K
      repeat (first | (refine wpMix_skip rfl ?_; simp only [Act.put, List.setIfInBounds_toArray, List.set_cons_succ, List.set_cons_zero]) | (refine wpMix_calm rfl rfl (fun K hK => ?_); go_big_quiet_op; refine hK _ ?_; clear hK K))
      refine wpMix_nil ?_
      have Hblk15 := hide (Hblk14.out.set 1 (.slice s13a s13l s13c))
      have Hf15 := hide (show Fr (oneB g) w14 (w14.setCell ⟨g, 1, none⟩ (.slice s13a s13l s13c)) from (Fr.refl (oneB g) _).setCell (p := ⟨g, 1, none⟩) (.inr rfl) _)
      generalize w14.setCell ⟨g, 1, none⟩ (.slice s13a s13l s13c) = w15 at *
      clear c14 z14 hg14
      go_wp2_with fail
      go_ret
      unfold DocTo
      rw [HA0.out, HA.out]
      have hnot : ∀ b, w3.heap.size ≤ b → ¬ oneB g b := fun b hb e => by unfold oneB at e; omega
      have hF13 : Fr F w w13 := (Hf3.out.tr Hf13.out).mono (fun _ _ h => h.elim)
      have hFR : Fr F w w15 := (hF13.trans Hf14.out (fun _ _ h => h) (fun b _ e => by unfold oneB at e; subst e; exact H.out.here)).trans Hf15.out (fun _ _ h => h) (fun b _ e => by unfold oneB at e; subst e; exact H.out.here)
      have hblk15 : Blk w15 g (.slice s12a s12l s12c :: .slice s13a s13l s13c :: rest).toArray ty := by have := Hblk15.out; simpa using this
      have hsz := Hf3.out.size
      refine ⟨rfl, doc_blk H.out (sp := ⟨s12a, s12l, s12c⟩) (sv := ⟨s13a, s13l, s13c⟩) hblk15 (((Hn12b.out.1.fr Hf14.out (fun b hb => hnot b (Hn12b.out.2 b hb)))).fr Hf15.out (fun b hb => hnot b (Hn12b.out.2 b hb))) (((Hn13.out.1.fr Hf14.out (fun b hb => hnot b (Hn13.out.2 b hb)))).fr Hf15.out (fun b hb => hnot b (Hn13.out.2 b hb))) hFR (fun b hb => .inr (by have := Hn12b.out.2 b hb; omega)) (fun b hb => .inr (by have := Hn13.out.2 b hb; omega)) (by have := Hpl.out; simp [List.length_take, List.length_drop]; omega), hFR⟩
end Go.Proofs.Ytgjabgneapdbiaa
