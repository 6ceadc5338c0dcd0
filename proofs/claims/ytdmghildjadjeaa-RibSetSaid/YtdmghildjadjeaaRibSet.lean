/- The law RibSet, walked: it returns true. -/
import Derived.Test.YtdmghildjadjeaaRibPlayed
namespace Go.Proofs.Ytdmghildjadjeaa
open Go.RowKit Go.BigFrame
set_option linter.unusedSimpArgs false
set_option linter.unusedVariables false
attribute [local irreducible] wpMix wpAnyG

/-- A route ahead of all others, added. -/
theorem add_front {l : List RouteM} {x : RouteM} (hs : SortedR (x :: l)) (hi : isR x = true) (hl : l.length < 256) : addR l x = ⟨0, x :: l⟩ := by
  have hlt : ∀ y ∈ l, ltR x y := (List.pairwise_cons.1 hs).1
  have hp : posR l x = 0 := posR_eq (Nat.zero_le _) (fun j y hj _ => by omega) (fun y hy h => by
    exact ltR_irrefl _ (ltR_trans (hlt y (List.mem_of_getElem? hy)) h))
  have hh : hasR l x = false := by
    cases h : hasR l x with
    | false => rfl
    | true =>
      exfalso
      obtain ⟨y, hy, hsm⟩ := hasR_some h
      have := hlt y (List.mem_of_getElem? hy)
      obtain ⟨h1, h2, h3, h4, h5⟩ := hsm
      unfold ltR at this
      rw [h1, h2, h3, h4, h5] at this
      omega
  unfold addR putR
  rw [hi, hh, hp, if_neg (by simp), if_neg (by simp; omega)]
  simp
theorem add_drop {l : List RouteM} {k : Nat} {x : RouteM} (hs : SortedR l) (hi : ∀ r ∈ l, isR r = true) (hl : l.length ≤ 256) (hx : l[k]? = some x) : addR (l.drop (k + 1)) x = ⟨0, l.drop k⟩ := by
  obtain ⟨hk, he⟩ := List.getElem?_eq_some_iff.1 hx
  have hd : l.drop k = x :: l.drop (k + 1) := by rw [← he]; exact List.drop_eq_getElem_cons hk
  have hss : SortedR (x :: l.drop (k + 1)) := by rw [← hd]; exact hs.sublist (List.drop_sublist _ _)
  rw [add_front hss (hi x (List.mem_of_getElem? hx)) (by simp; omega), hd]
def SetAt (w0 : World) (D : Nat → Prop) (gc gd : Nat) (l : List RouteM) (i : Value) (wr : World) : Prop :=
  ∃ (k : Nat) (F : Nat → Prop), k ≤ l.length ∧ i = .int .i64 ((k : Int) - 1) ∧ Rib wr F gc (l.drop k) ∧ Rib wr D gd l ∧ Fr noB w0 wr ∧ ∀ b, F b → w0.heap.size ≤ b ∧ ¬ D b

set_option maxRecDepth 100000 in
set_option maxHeartbeats 4000000 in
theorem law_set (s : SlV) (xs : List ActM) (r : RouteM) (hr : r.wf) (su : SlV) (up : List Bool) (w : World) (hs : Acts w s xs) (hu : Ups w su up) :
    Calls Try.prog 9 #[.slice s.a s.len s.cap, .agg r.cells.toArray, .slice su.a su.len su.cap] w fun e w' => e = .returned (.bool true) ∧ Fr noB w w' := by
  have Hs := hide hs; have Hu := hide hu
  have hul : su.len ≤ maxLen := hu.2.1
  unfold maxLen at hul
  clear hs hu
  obtain ⟨ua, ul, uc⟩ := su
  simp only at hul ⊢
  by_cases h20 : 20 < ul
  · go_enter Try.func9, Try.ntmps9
    go_wp2_with fail
    go_ret
    exact ⟨rfl, (Fr.refl _ _).alloc _⟩
  · go_enter Try.func9, Try.ntmps9
    go_upto_region 3 with (fail)
    refine wp_gen (fun W => CellsAt W w.heap.size 0 r.cells ∧ Fr noB w W) ⟨by (repeat (first | assumption | exact cells_new _ _ _ (by simp) | refine CellsAt.alloc ?_ _ | refine CellsAt.drew ?_ | refine CellsAt.drewN ?_ _)), (Fr.refl _ _).alloc _⟩ ?_
    rintro w1 ⟨hc, hf⟩
    have Hc := hide hc; have Hf := hide hf
    clear hc hf
    go_wp2_with fail
    refine (law_played s xs w1 (SlOf.fr Hs.out Hf.out (fun _ _ h => h) (fun _ h => h))).mono ?_
    rintro e w2 ⟨l, g, gx, rfl, hb⟩
    obtain ⟨hf2, F, G, hrib, hdoc, _⟩ := hb
    have Hf2 := hide (Hf.out.tr hf2); have Hrib := hide hrib
    have hcr : CellsAt w2 w.heap.size 0 r.cells := Hc.out.fr hf2 (fun h => h)
    have Hcr := hide hcr
    obtain ⟨⟨⟨sa, sl, sc⟩, hblk, hown, _⟩, _⟩ := hdoc
    have Hown := hide hown; have Hblk := hide hblk
    have hsl : sl = l.length := hown.1
    have Hsl := hide hsl
    have hsm : sl ≤ 256 := by have := hrib.len; omega
    clear hf2 hrib hblk hown hcr hsl
    go_wp2_with fail
    refine (rib_new _).mono ?_
    rintro e w3 ⟨rfl, hr3, hf3⟩
    have Hr3 := hide hr3; have Hf3 := hide hf3
    obtain ⟨gc, hgc⟩ : ∃ gc, w2.heap.size = gc := ⟨_, rfl⟩
    have HR3 : Hid (Rib w3 (newB w2 w3) gc []) := by rw [← hgc]; exact Hr3
    rw [hgc]
    clear hr3 hf3 Hr3 hgc
    go_wp2_with fail
    refine (rib_copy w3 F g l (Hrib.out.frN Hf3.out)).mono ?_
    rintro e w4 ⟨gd, rfl, hd4, hf4⟩
    have HS : Hid (SetAt w2 (newB w3 w4) gc gd l (.int .i64 ((l.length : Int) - 1)) w4) := by
      have s3 := Hf3.out.size
      refine ⟨l.length, newB w2 w3, Nat.le_refl _, rfl, ?_, hd4, Hf3.out.tr hf4, fun b hb => ⟨hb.1, fun h => ?_⟩⟩
      · rw [List.drop_length]; exact HR3.out.frN hf4
      · have := hb.2; have := h.1; omega
    have HD : Hid (∀ b, newB w3 w4 b → w2.heap.size ≤ b) := hide (fun b hb => by have := hb.1; have := Hf3.out.size; omega)
    have Hf4 := hide (Hf3.out.tr hf4)
    have hg : w4.cell? ⟨gx, 0, none⟩ = some (.slice sa sl sc) := (Hblk.out.fr (Hf3.out.tr hf4) (fun h => h)).cell 0
    generalize newB w3 w4 = D at *
    clear hd4 hf4
    go_upto_region 11 with (fail)
    clear hg
    go_loopw [12] (SetAt w2 D gc gd l) (fun i _ => (intOf i + 1).toNat)
    case atStart => have := HS.out; rw [← Hsl.out] at this; exact this
    case round =>
      obtain ⟨k, F', hk, rfl, hcr, hdr, hfr, hF⟩ := hrel
      have Hcr' := hide hcr; have Hdr := hide hdr; have Hfr := hide hfr; have HF := hide hF
      clear hcr hdr hfr hF HS
      cases k with
      | succ j =>
        rw [show (((j + 1 : Nat) : Int) - 1) = (j : Int) by omega]
        have hj : j < sl := by have := Hsl.out; omega
        have hx : l[j]? = some l[j] := List.getElem?_eq_getElem (by omega)
        generalize l[j] = x at hx
        obtain ⟨ga, hga, _, hcx, _⟩ := own_at (Hown.out.fr Hfr.out (fun _ _ h => h)) RouteM.length hx
        simp only at hga
        subst hga
        have Hx := hide hx
        have hmul : ((j : Int) * 6).toNat = j * 6 := by omega
        have hg : wr.cell? ⟨gx, 0, none⟩ = some (.slice (some ⟨ga, 0, none⟩) sl sc) := (Hblk.out.fr Hfr.out (fun h => h)).cell 0
        clear hx hk
        go_wp2_with (refine wpList_load_at rfl 26 _ rfl _ _ rfl (RouteM.cells _) (by (repeat (first | assumption | exact cells_new _ _ _ (by simp) | refine CellsAt.alloc ?_ _ | refine CellsAt.drew ?_ | refine CellsAt.drewN ?_ _))) _ Try.underlying26 rfl (by kernel_rfl) ?_)
        refine (rib_add wr F' gc _ Hcr'.out x (Hrib.out.wf x (List.mem_of_getElem? Hx.out))).mono ?_
        rintro e w5 ⟨rfl, hr5, hf5⟩
        rw [add_drop Hrib.out.sorted Hrib.out.is Hrib.out.len Hx.out] at hr5 ⊢
        have HN := hide (show SetAt w2 D gc gd l (.int .i64 ((j : Int) - 1)) w5 from by
          refine ⟨j, gr F' wr w5, by have := Hsl.out; omega, rfl, hr5, Hdr.out.fr hf5 (fun b hb h => (HF.out b h).2 hb), Hfr.out.trans hf5 (fun _ _ h => h) (fun b hb h => by have := (HF.out b h).1; omega), fun b hb => ?_⟩
          have := Hfr.out.size
          rcases hb with hb | hb
          · exact HF.out b hb
          · exact ⟨by omega, fun h => by have := Hdr.out.lt b h; omega⟩)
        clear hr5 hf5 hg hcx
        simp only
        go_wp2_with fail
        go_roundw
        case rel => exact HN.out
        case measure => simp [intOf]
      | zero =>
        have Hc' : Hid (Rib wr F' gc l) := by have := Hcr'.out; rw [List.drop_zero] at this; exact hide this
        clear Hcr'
        rw [show (((0 : Nat) : Int) - 1) = -1 by omega]
        have hcr : CellsAt wr w.heap.size 0 r.cells := Hcr.out.fr Hfr.out (fun h => h)
        go_wp2_with (refine wpList_load_at rfl 26 _ rfl _ _ rfl (RouteM.cells _) (by (repeat (first | assumption | exact cells_new _ _ _ (by simp) | refine CellsAt.alloc ?_ _ | refine CellsAt.drew ?_ | refine CellsAt.drewN ?_ _))) _ Try.underlying26 rfl (by kernel_rfl) ?_)
        refine (rib_add wr D gd l Hdr.out r hr).mono ?_
        rintro e w5 ⟨rfl, _, hf5⟩
        have Hc5 := hide (Hc'.out.fr hf5 (fun b hb h => (HF.out b hb).2 h))
        have Hf5 := hide (show Fr noB w2 w5 from Hfr.out.trans hf5 (fun _ _ h => h) (fun b hb h => by have := HD.out b h; omega))
        have Hb5 := hide (Hrib.out.frN Hf5.out)
        have hg0 : ∀ z : Grow w5, z.v.cell? ⟨gx, 0, none⟩ = some (.slice sa sl sc) := fun z => (Hblk.out.fr (Hf5.out.tr z.fr) (fun h => h)).cell 0
        generalize (addR l r).e = e5
        clear hf5 hcr Hc'
        simp only
        go_upto_region 15 with (fail)
        refine wp_region_mix (fun W => ∃ z : Grow w5, W = z.v) (by kernel_rfl) (by kernel_rfl) (inGrow (Fr.refl _ _).drew) ?_
        iterate 1 (first | (refine wpMix_skip rfl ?_; simp only [Act.put, List.setIfInBounds_toArray, List.set_cons_succ, List.set_cons_zero]) | (refine wpMix_calm rfl rfl (fun K hK => ?_); go_big_quiet_op; refine hK _ ?_; clear hK K))
        refine wpMix_spine rfl rfl (fun K hK => ?_); go_wp2_with fail
        refine (rib_all w5.drew F g l (Hb5.out.frN (Fr.refl noB w5).drew)).mono ?_
        rintro e w6 ⟨s6, rfl, hn6, hf6⟩
        have Hn6 := hide hn6; have Hf6 := hide ((Fr.refl noB w5).drew.tr hf6)
        refine hK _ _ rfl (inGrow Hf6.out) ?_
        clear hK K hn6 hf6
        iterate 1 (first | (refine wpMix_skip rfl ?_; simp only [Act.put, List.setIfInBounds_toArray, List.set_cons_succ, List.set_cons_zero]) | (refine wpMix_calm rfl rfl (fun K hK => ?_); go_big_quiet_op; refine hK _ ?_; clear hK K))
        refine wpMix_spine rfl rfl (fun K hK => ?_); go_wp2_with fail
        refine (rib_all w6 F' gc l (Hc5.out.frN Hf6.out)).mono ?_
        rintro e w7 ⟨s7, rfl, hn7, hf7⟩
        have Hn7 := hide hn7; have Hf7 := hide (Hf6.out.tr hf7); have Hn6' := hide (Hn6.out.fr hf7)
        refine hK _ _ rfl (inGrow Hf7.out) ?_
        clear hK K hn7 hf7
        refine wpMix_spine rfl rfl (fun K hK => ?_); go_wp2_with fail
        refine (law_routes s6 l s7 l w7 (Hn6'.out.slof RouteM.length (fun _ _ => trivial)) (Hn7.out.slof RouteM.length (fun _ _ => trivial))).mono ?_
        rintro e w8 ⟨rfl, hf8⟩
        rw [decide_eq_true rfl]
        have Hf8 := hide (Hf7.out.tr hf8)
        refine hK _ _ rfl (inGrow Hf8.out) ?_
        clear hK K hf8
        iterate 3 (first | (refine wpMix_skip rfl ?_; simp only [Act.put, List.setIfInBounds_toArray, List.set_cons_succ, List.set_cons_zero]) | (refine wpMix_calm rfl rfl (fun K hK => ?_); go_big_quiet_op; refine hK _ ?_; clear hK K))
        refine wpMix_spine rfl rfl (fun K hK => ?_); go_wp2_with fail
        refine (rib_active w8 F g l (Hb5.out.frN Hf8.out) 0 ⟨ua, ul, uc⟩ up (SlOf.fr Hu.out (Hf2.out.tr (Hf5.out.tr Hf8.out)) (fun _ _ h => h) (fun _ h => h))).mono ?_
        rintro e w9 ⟨s9, rfl, hn9, hf9⟩
        have Hn9 := hide hn9; have Hf9 := hide (Hf8.out.tr hf9)
        refine hK _ _ rfl (inGrow Hf9.out) ?_
        clear hK K hn9 hf9
        iterate 2 (first | (refine wpMix_skip rfl ?_; simp only [Act.put, List.setIfInBounds_toArray, List.set_cons_succ, List.set_cons_zero]) | (refine wpMix_calm rfl rfl (fun K hK => ?_); go_big_quiet_op; refine hK _ ?_; clear hK K))
        refine wpMix_spine rfl rfl (fun K hK => ?_); go_wp2_with fail
        refine (rib_active w9 F' gc l (Hc5.out.frN Hf9.out) 0 ⟨ua, ul, uc⟩ up (SlOf.fr Hu.out (Hf2.out.tr (Hf5.out.tr Hf9.out)) (fun _ _ h => h) (fun _ h => h))).mono ?_
        rintro e w10 ⟨s10, rfl, hn10, hf10⟩
        have Hn10 := hide hn10; have Hf10 := hide (Hf9.out.tr hf10); have Hn9' := hide (Hn9.out.fr hf10)
        refine hK _ _ rfl (inGrow Hf10.out) ?_
        clear hK K hn10 hf10
        refine wpMix_spine rfl rfl (fun K hK => ?_); go_wp2_with fail
        refine (law_routes s9 _ s10 _ w10 (Hn9'.out.slof RouteM.length (fun _ _ => trivial)) (Hn10.out.slof RouteM.length (fun _ _ => trivial))).mono ?_
        rintro e w11 ⟨rfl, hf11⟩
        rw [decide_eq_true rfl]
        have Hf11 := hide (Hf10.out.tr hf11)
        refine hK _ _ rfl (inGrow Hf11.out) ?_
        clear hK K hf11
        iterate 3 (first | (refine wpMix_skip rfl ?_; simp only [Act.put, List.setIfInBounds_toArray, List.set_cons_succ, List.set_cons_zero]) | (refine wpMix_calm rfl rfl (fun K hK => ?_); go_big_quiet_op; refine hK _ ?_; clear hK K))
        refine wpMix_spine rfl rfl (fun K hK => ?_); go_wp2_with fail
        refine (rib_all w11 F g l (Hb5.out.frN Hf11.out)).mono ?_
        rintro e w12 ⟨s12, rfl, hn12, hf12⟩
        have Hn12 := hide hn12; have Hf12 := hide (Hf11.out.tr hf12)
        refine hK _ _ rfl (inGrow Hf12.out) ?_
        clear hK K hn12 hf12
        iterate 4 (first | (refine wpMix_skip rfl ?_; simp only [Act.put, List.setIfInBounds_toArray, List.set_cons_succ, List.set_cons_zero]) | (refine wpMix_calm rfl rfl (fun K hK => ?_); go_big_quiet_op; refine hK _ ?_; clear hK K))
        refine wpMix_spine rfl rfl (fun K hK => ?_); go_wp2_with fail
        refine (law_routes s12 l ⟨sa, sl, sc⟩ l w12 (Hn12.out.slof RouteM.length (fun _ _ => trivial)) ((Hown.out.fr (Hf5.out.tr Hf12.out) (fun _ _ h => h)).slof RouteM.length (fun _ _ => trivial))).mono ?_
        rintro e w13 ⟨rfl, hf13⟩
        rw [decide_eq_true rfl]
        have Hf13 := hide (Hf12.out.tr hf13)
        refine hK _ _ rfl (inGrow Hf13.out) ?_
        clear hK K hf13
        iterate 2 (first | (refine wpMix_skip rfl ?_; simp only [Act.put, List.setIfInBounds_toArray, List.set_cons_succ, List.set_cons_zero]) | (refine wpMix_calm rfl rfl (fun K hK => ?_); go_big_quiet_op; refine hK _ ?_; clear hK K))
        refine wpMix_spine rfl rfl (fun K hK => ?_); go_wp2_with fail
        refine (law_known w13).mono ?_
        rintro e w14 ⟨rfl, hf14⟩
        have Hf14 := hide (Hf13.out.tr hf14)
        refine hK _ _ rfl (inGrow Hf14.out) ?_
        clear hK K hf14
        repeat (first | (refine wpMix_skip rfl ?_; simp only [Act.put, List.setIfInBounds_toArray, List.set_cons_succ, List.set_cons_zero]) | (refine wpMix_calm rfl rfl (fun K hK => ?_); go_big_quiet_op; refine hK _ ?_; clear hK K))
        refine wpMix_nil ?_
        clear hg0
        go_wp2_with fail
        go_ret
        exact ⟨rfl, Hf2.out.tr (Hf5.out.tr Hf14.out)⟩
end Go.Proofs.Ytdmghildjadjeaa
