/- The document's answer to chapter 11: Active. -/
import Derived.Test.YtdmghildjadjeaaRibDocBest
namespace Go.Proofs.Ytdmghildjadjeaa
open Go.RowKit Go.BigFrame
set_option linter.unusedSimpArgs false
set_option linter.unusedVariables false
attribute [local irreducible] wpMix wpAnyG

/-- Does a prefix of the table begin here? -/
def newP (l : List RouteM) (table : Int) (k : Nat) (r : RouteM) : Bool :=
  decide (r.table = table) && !(match k with | 0 => false | j + 1 => (match l[j]? with | some y => decide (y.table = table ∧ y.pfx = r.pfx) | none => false))
def refAct (l : List RouteM) (table : Int) (up : List Bool) : Nat → List RouteM
  | 0 => []
  | k + 1 => match l[k]? with
    | none => refAct l table up k
    | some r => if newP l table k r then refAct l table up k ++ (bestO l table r.pfx up).toList else refAct l table up k
theorem refAct_snoc (l : List RouteM) (table : Int) (up : List Bool) (k : Nat) (r : RouteM) (h : l[k]? = some r) : refAct l table up (k + 1) = if newP l table k r then refAct l table up k ++ (bestO l table r.pfx up).toList else refAct l table up k := by
  rw [refAct, h]
theorem refAct_len (l : List RouteM) (table : Int) (up : List Bool) : ∀ k, (refAct l table up k).length ≤ k
  | 0 => by simp [refAct]
  | k + 1 => by
    have ih := refAct_len l table up k
    rw [refAct]
    split
    · omega
    · split
      · rw [List.length_append]
        have : ∀ o : Option RouteM, o.toList.length ≤ 1 := fun o => by cases o <;> simp
        have := this (bestO l table (by assumption : RouteM).pfx up)
        omega
      · omega
def RefAt (l : List RouteM) (table : Int) (up : List Bool) (w0 : World) (v i : Value) (wr : World) : Prop := ∃ (k : Nat) (s : SlV), k ≤ l.length ∧ v = .slice s.a s.len s.cap ∧ i = .int .i64 k ∧ NewL w0 wr 26 6 RouteM.cells s (refAct l table up k) ∧ Fr noB w0 wr

set_option maxRecDepth 100000 in
set_option maxHeartbeats 4000000 in
theorem doc_active (w : World) (F : Nat → Prop) (g : Nat) (l : List RouteM) (h : Doc w F g l) (table : Int) (su : SlV) (up : List Bool) (hu : Ups w su up) :
    Calls Try.prog 22 #[.pointer (some ⟨g, 0, none⟩), .int .i64 table, .slice su.a su.len su.cap] w (AllTo w (refAct l table up l.length)) := by
  have H := hide h; have Hu := hide hu
  have hlen := h.len
  clear h hu
  obtain ⟨ua, ul, uc⟩ := su
  simp only
  go_enter Try.func22, Try.ntmps22
  go_wp2_with fail
  go_loopw [7, 8] (RefAt l table up w) (fun _ i _ => l.length - (intOf i).toNat)
  case atStart => exact ⟨0, ⟨none, 0, 0⟩, Nat.zero_le _, rfl, rfl, NewL.nil _ _ _ _ _, Fr.refl _ _⟩
  case round =>
    obtain ⟨k, ⟨s7a, s7l, s7c⟩, hk, rfl, rfl, hn, hf1⟩ := hrel
    have Hn := hide hn; have Hf1 := hide hf1
    have hs7 : s7l ≤ 256 := by have := hn.1.1; have h2 := refAct_len l table up k; have h3 : s7l = (refAct l table up k).length := hn.1.1; omega
    clear hn hf1
    obtain ⟨⟨⟨sa, sl, sc⟩, hblk, hown, hF2⟩, _⟩ := H.out.frN Hf1.out
    have hsl : sl = l.length := hown.1
    have c0 : wr.cell? ⟨g, 0, none⟩ = some (.slice sa sl sc) := hblk.cell 0
    have hmax : sl ≤ 256 := by rw [hsl]; exact hlen
    have Hsl := hide hsl; have Hown := hide hown; have Hblk := hide hblk
    clear hsl hblk hown hF2
    simp only
    by_cases hlt : k < sl
    · have hk2 : k < l.length := by have := Hsl.out; omega
      have hx : l[k]? = some l[k] := List.getElem?_eq_getElem hk2
      generalize l[k] = r at hx
      obtain ⟨gs, rfl, _, hcx, _⟩ := own_at Hown.out RouteM.length hx
      have Hx := hide hx
      have hmul : ((k : Int) * 6).toNat = k * 6 := by omega
      clear hx hk
      go_upto_region 6 with (first | (refine wpList_load_at rfl 26 _ rfl _ _ rfl (RouteM.cells _) (by (repeat (first | assumption | exact cells_new _ _ _ (by simp) | refine CellsAt.alloc ?_ _ | refine CellsAt.drew ?_ | refine CellsAt.drewN ?_ _))) _ Try.underlying26 rfl (by kernel_rfl) ?_) | (refine wpList_store_new rfl 26 _ _ rfl _ _ (RouteM.cells _) _ rfl rfl (by simp) (by kernel_rfl) rfl (by kernel_rfl) ?_))
      simp only [Act.put, List.setIfInBounds_toArray, List.set_cons_succ, List.set_cons_zero]
      refine wp_gen (fun W => CellsAt W wr.heap.size 0 r.cells ∧ Fr noB wr W) ⟨cells_new _ _ _ rfl, (Fr.refl _ _).alloc _⟩ ?_
      rintro w4 ⟨hc4, hf4⟩
      have Hc4 := hide hc4; have Hf4 := hide (Hf1.out.tr hf4); have Hfx := hide hf4
      have hcrp := pfx_cells hc4
      have Hblk4 := hide (Hblk.out.fr hf4 (fun h => h))
      have hg0 : ∀ z : Grow w4, z.v.cell? ⟨g, 0, none⟩ = some (.slice (some ⟨gs, 0, none⟩) sl sc) := fun z => (Hblk4.out.fr z.fr (fun h => h)).cell 0
      obtain ⟨a0, _, _, _, _, _⟩ := route_grow hc4
      clear c0 hcx hf4
      refine wp_region_mix (fun W => ∃ z : Grow w4, W = z.v) (by kernel_rfl) (by kernel_rfl) (inGrow (Fr.refl _ _).drew) ?_
      by_cases ht : r.table = table
      · rcases Nat.eq_zero_or_pos k with hk0 | hk0
        · have HN := hide (show newP l table k r = true from by unfold newP; rw [hk0]; simp [ht])
          have gpos : decide ((0 : Int) < (k : Int)) = false := by simp; omega
          repeat (first | (refine wpMix_skip rfl ?_; simp only [Act.put, List.setIfInBounds_toArray, List.set_cons_succ, List.set_cons_zero]) | (refine wpMix_calm rfl rfl (fun K hK => ?_); go_big_quiet_op; refine hK _ ?_; clear hK K))
          refine wpMix_nil ?_
          have hcr5 : CellsAt w4.drew wr.heap.size 1 r.pfx.cells := pfx_cells Hc4.out
          have hf5 : Fr noB w4 w4.drew := (Fr.refl _ _).drew
          clear hg0 a0 hcrp
          generalize w4.drew = w5 at hcr5 hf5 ⊢
          have Hf5 := hide (Hf4.out.tr hf5); have Hg5 := hide (Hfx.out.tr hf5)
          clear hf5
          go_wp2_with (refine wpList_load_at rfl 24 (.tmp 66) rfl wr.heap.size 1 rfl r.pfx.cells hcr5 _ Try.underlying24 rfl (by kernel_rfl) ?_)
          refine (doc_best w5 F g l (H.out.frN Hf5.out) table r.pfx ⟨ua, ul, uc⟩ up (SlOf.fr Hu.out Hf5.out (fun _ _ h => h) (fun _ h => h))).mono ?_
          rintro e w6 ⟨rfl, hf6⟩
          have Hf6 := hide (Hf5.out.tr hf6); have Hg6 := hide (Hg5.out.tr hf6)
          clear hf6 hcr5
          cases hbst : bestO l table r.pfx up with
          | none =>
            have HS := hide (show refAct l table up (k + 1) = refAct l table up k from by rw [refAct_snoc l table up k r Hx.out, HN.out, hbst]; simp)
            clear hbst
            unfold toBest bestV
            simp only
            go_wp2_with (refine wpList_store_new rfl 26 _ _ rfl _ _ (RouteM.cells _) _ rfl rfl (by simp) (by kernel_rfl) rfl (by kernel_rfl) ?_)
            go_roundw
            case rel => exact ⟨k + 1, ⟨s7a, s7l, s7c⟩, by have := Hsl.out; omega, rfl, by go_num, by rw [HS.out]; exact Hn.out.fr (Hg6.out.alloc _), Hf6.out.alloc _⟩
            case measure => have := Hsl.out; simp [intOf]; omega
          | some x =>
            have HS := hide (show refAct l table up (k + 1) = refAct l table up k ++ [x] from by rw [refAct_snoc l table up k r Hx.out, HN.out, hbst]; simp)
            clear hbst
            unfold toBest bestV
            simp only
            go_upto_region 9 with (refine wpList_store_new rfl 26 _ _ rfl _ _ (RouteM.cells _) _ rfl rfl (by simp) (by kernel_rfl) rfl (by kernel_rfl) ?_)
            refine wp_gen (fun W => CellsAt W w6.heap.size 0 x.cells ∧ Fr noB w6 W) ⟨cells_new _ _ _ rfl, (Fr.refl _ _).alloc _⟩ ?_
            rintro w7 ⟨hc7, hf7⟩
            have Hf7 := hide (Hf6.out.tr hf7); have Hn7 := hide (Hn.out.fr (Hg6.out.tr hf7))
            have hral := refAct_len l table up k
            clear hf7
            go_wp2_with (first | (refine wpList_load_at rfl 26 _ rfl _ _ rfl (RouteM.cells _) (by (repeat (first | assumption | exact cells_new _ _ _ (by simp) | refine CellsAt.alloc ?_ _ | refine CellsAt.drew ?_ | refine CellsAt.drewN ?_ _))) _ Try.underlying26 rfl (by kernel_rfl) ?_) | (refine wpList_buildSlice rfl 35 1 _ rfl #[(0, .agg x.cells.toArray)] (by kernel_rfl) Try.underlying35 (.agg zeroR.cells.toArray) 6 (by kernel_rfl) x.cells.toArray (by decide) (by decide) (by kernel_rfl) ?_) | (refine wpList_append_newD (w0 := w) (N := 6) (cells := RouteM.cells) (xs := refAct l table up k) (s := ⟨s7a, s7l, s7c⟩) (q := ⟨some ⟨w7.heap.size, 0, none⟩, 1, 1⟩) (ys := [x]) (ok := fun _ => True) rfl (.tmp 73) (.tmp 75) 35 rfl Try.underlying35 _ 48 route_info (by kernel_rfl) (by decide) RouteM.length RouteM.mem rfl (Hn7.out.fr ((Fr.refl noB w7).alloc _)) (Hf7.out.alloc _) rfl (slof_one RouteM.length _ trivial) (fun h => by cases h) (by simp [maxLen] <;> omega) (by simp <;> omega) ?_; intro s4 w8 hn4 hf4 hf4' hd4; have Hn8 := hide hn4; have Hf8 := hide hf4; clear hn4 hf4 hf4' hd4))
            go_roundw
            case rel => exact ⟨k + 1, s4, by have := Hsl.out; omega, rfl, by go_num, by rw [HS.out]; exact Hn8.out, Hf8.out⟩
            case measure => have := Hsl.out; simp [intOf]; omega
        · obtain ⟨j, hj⟩ : ∃ j, k = j + 1 := ⟨k - 1, by omega⟩
          have hsub : (k : Int) - 1 = (j : Int) := by omega
          have hjl : j < l.length := by omega
          have hy : l[j]? = some l[j] := List.getElem?_eq_getElem hjl
          generalize l[j] = y at hy
          have hcy : CellsAt w4 gs (j * 6) y.cells := by
            obtain ⟨g', hg', _, h, _⟩ := own_at Hown.out RouteM.length hy
            simp only [Option.some.injEq, Addr.mk.injEq, and_true] at hg'
            subst hg'
            exact h.fr Hfx.out (fun (e : noB gs) => e)
          have hmulj : ((j : Int) * 6).toNat = j * 6 := by omega
          have hjs : j < sl := by omega
          obtain ⟨b0, _⟩ := route_grow hcy
          have hcyp : CellsAt w4 gs (j * 6 + 1) y.pfx.cells := cells_pre (ds := [.int .i64 y.iface, .int .u32 (y.gate : Nat), .int .i64 y.metric]) (by have h := cells_part hcy 1; exact h)
          have HNN := hide (show newP l table k r = !decide (y.table = table ∧ y.pfx = r.pfx) from by unfold newP; rw [hj]; simp only [hy]; simp [ht])
          have gpos : decide ((0 : Int) < (k : Int)) = true := by simp; omega
          have Hj := hide hj
          clear hj hy
          have pre : True := trivial
          by_cases hyt : y.table = table
          · iterate 29 (first | (refine wpMix_skip rfl ?_; simp only [Act.put, List.setIfInBounds_toArray, List.set_cons_succ, List.set_cons_zero]) | (refine wpMix_calm rfl rfl (fun K hK => ?_); go_big_quiet_op; refine hK _ ?_; clear hK K))
            refine wpMix_load_atw rfl 24 (.tmp 56) rfl gs (j * 6 + 1) (by go_simp) y.pfx.cells (fun W hW => by obtain ⟨z, rfl⟩ := hW; exact hcyp.fr z.fr (fun h => h)) _ Try.underlying24 rfl (by kernel_rfl) ?_
            simp only [Act.put, List.setIfInBounds_toArray, List.set_cons_succ, List.set_cons_zero]
            iterate 1 (first | (refine wpMix_skip rfl ?_; simp only [Act.put, List.setIfInBounds_toArray, List.set_cons_succ, List.set_cons_zero]) | (refine wpMix_calm rfl rfl (fun K hK => ?_); go_big_quiet_op; refine hK _ ?_; clear hK K))
            refine wpMix_load_atw rfl 24 (.tmp 58) rfl wr.heap.size 1 rfl r.pfx.cells (fun W hW => by obtain ⟨z, rfl⟩ := hW; exact hcrp.fr z.fr (fun h => h)) _ Try.underlying24 rfl (by kernel_rfl) ?_
            simp only [Act.put, List.setIfInBounds_toArray, List.set_cons_succ, List.set_cons_zero]
            by_cases hpp : y.pfx = r.pfx
            · refine wpMix_eqs rfl false 24 (.tmp 57) (.tmp 59) rfl y.pfx.cells.toArray r.pfx.cells.toArray rfl rfl true (by kernel_rfl) (fun w => by rw [prefix_equal, decide_eq_true hpp]) ?_
              simp only [Act.put, List.setIfInBounds_toArray, List.set_cons_succ, List.set_cons_zero]
              have HN := hide (show newP l table k r = false from by rw [HNN.out]; simp [hyt, hpp])
              clear hpp
              repeat (first | (refine wpMix_skip rfl ?_; simp only [Act.put, List.setIfInBounds_toArray, List.set_cons_succ, List.set_cons_zero]) | (refine wpMix_calm rfl rfl (fun K hK => ?_); go_big_quiet_op; refine hK _ ?_; clear hK K))
              refine wpMix_nil ?_
              clear hg0 a0 hcrp
              go_wp2_with fail
              go_roundw
              case rel => exact ⟨k + 1, ⟨s7a, s7l, s7c⟩, by have := Hsl.out; omega, rfl, by go_num, by rw [refAct_snoc l table up k r Hx.out, HN.out]; exact Hn.out.fr Hfx.out.drew, Hf4.out.drew⟩
              case measure => have := Hsl.out; simp [intOf]; omega
            · refine wpMix_eqs rfl false 24 (.tmp 57) (.tmp 59) rfl y.pfx.cells.toArray r.pfx.cells.toArray rfl rfl false (by kernel_rfl) (fun w => by rw [prefix_equal, decide_eq_false hpp]) ?_
              simp only [Act.put, List.setIfInBounds_toArray, List.set_cons_succ, List.set_cons_zero]
              have HN := hide (show newP l table k r = true from by rw [HNN.out]; simp [hpp])
              clear hpp
              repeat (first | (refine wpMix_skip rfl ?_; simp only [Act.put, List.setIfInBounds_toArray, List.set_cons_succ, List.set_cons_zero]) | (refine wpMix_calm rfl rfl (fun K hK => ?_); go_big_quiet_op; refine hK _ ?_; clear hK K))
              refine wpMix_nil ?_
              have hcr5 : CellsAt w4.drew wr.heap.size 1 r.pfx.cells := pfx_cells Hc4.out
              have hf5 : Fr noB w4 w4.drew := (Fr.refl _ _).drew
              clear hg0 a0 hcrp
              generalize w4.drew = w5 at hcr5 hf5 ⊢
              have Hf5 := hide (Hf4.out.tr hf5); have Hg5 := hide (Hfx.out.tr hf5)
              clear hf5
              go_wp2_with (refine wpList_load_at rfl 24 (.tmp 66) rfl wr.heap.size 1 rfl r.pfx.cells hcr5 _ Try.underlying24 rfl (by kernel_rfl) ?_)
              refine (doc_best w5 F g l (H.out.frN Hf5.out) table r.pfx ⟨ua, ul, uc⟩ up (SlOf.fr Hu.out Hf5.out (fun _ _ h => h) (fun _ h => h))).mono ?_
              rintro e w6 ⟨rfl, hf6⟩
              have Hf6 := hide (Hf5.out.tr hf6); have Hg6 := hide (Hg5.out.tr hf6)
              clear hf6 hcr5
              cases hbst : bestO l table r.pfx up with
              | none =>
                have HS := hide (show refAct l table up (k + 1) = refAct l table up k from by rw [refAct_snoc l table up k r Hx.out, HN.out, hbst]; simp)
                clear hbst
                unfold toBest bestV
                simp only
                go_wp2_with (refine wpList_store_new rfl 26 _ _ rfl _ _ (RouteM.cells _) _ rfl rfl (by simp) (by kernel_rfl) rfl (by kernel_rfl) ?_)
                go_roundw
                case rel => exact ⟨k + 1, ⟨s7a, s7l, s7c⟩, by have := Hsl.out; omega, rfl, by go_num, by rw [HS.out]; exact Hn.out.fr (Hg6.out.alloc _), Hf6.out.alloc _⟩
                case measure => have := Hsl.out; simp [intOf]; omega
              | some x =>
                have HS := hide (show refAct l table up (k + 1) = refAct l table up k ++ [x] from by rw [refAct_snoc l table up k r Hx.out, HN.out, hbst]; simp)
                clear hbst
                unfold toBest bestV
                simp only
                go_upto_region 9 with (refine wpList_store_new rfl 26 _ _ rfl _ _ (RouteM.cells _) _ rfl rfl (by simp) (by kernel_rfl) rfl (by kernel_rfl) ?_)
                refine wp_gen (fun W => CellsAt W w6.heap.size 0 x.cells ∧ Fr noB w6 W) ⟨cells_new _ _ _ rfl, (Fr.refl _ _).alloc _⟩ ?_
                rintro w7 ⟨hc7, hf7⟩
                have Hf7 := hide (Hf6.out.tr hf7); have Hn7 := hide (Hn.out.fr (Hg6.out.tr hf7))
                have hral := refAct_len l table up k
                clear hf7
                go_wp2_with (first | (refine wpList_load_at rfl 26 _ rfl _ _ rfl (RouteM.cells _) (by (repeat (first | assumption | exact cells_new _ _ _ (by simp) | refine CellsAt.alloc ?_ _ | refine CellsAt.drew ?_ | refine CellsAt.drewN ?_ _))) _ Try.underlying26 rfl (by kernel_rfl) ?_) | (refine wpList_buildSlice rfl 35 1 _ rfl #[(0, .agg x.cells.toArray)] (by kernel_rfl) Try.underlying35 (.agg zeroR.cells.toArray) 6 (by kernel_rfl) x.cells.toArray (by decide) (by decide) (by kernel_rfl) ?_) | (refine wpList_append_newD (w0 := w) (N := 6) (cells := RouteM.cells) (xs := refAct l table up k) (s := ⟨s7a, s7l, s7c⟩) (q := ⟨some ⟨w7.heap.size, 0, none⟩, 1, 1⟩) (ys := [x]) (ok := fun _ => True) rfl (.tmp 73) (.tmp 75) 35 rfl Try.underlying35 _ 48 route_info (by kernel_rfl) (by decide) RouteM.length RouteM.mem rfl (Hn7.out.fr ((Fr.refl noB w7).alloc _)) (Hf7.out.alloc _) rfl (slof_one RouteM.length _ trivial) (fun h => by cases h) (by simp [maxLen] <;> omega) (by simp <;> omega) ?_; intro s4 w8 hn4 hf4 hf4' hd4; have Hn8 := hide hn4; have Hf8 := hide hf4; clear hn4 hf4 hf4' hd4))
                go_roundw
                case rel => exact ⟨k + 1, s4, by have := Hsl.out; omega, rfl, by go_num, by rw [HS.out]; exact Hn8.out, Hf8.out⟩
                case measure => have := Hsl.out; simp [intOf]; omega
          · have g1 : decide (y.table = table) = false := decide_eq_false hyt
            have g2 : (y.table == table) = false := by simp [hyt]
            have HN := hide (show newP l table k r = true from by rw [HNN.out]; simp [hyt])
            repeat (first | (refine wpMix_skip rfl ?_; simp only [Act.put, List.setIfInBounds_toArray, List.set_cons_succ, List.set_cons_zero]) | (refine wpMix_calm rfl rfl (fun K hK => ?_); go_big_quiet_op; refine hK _ ?_; clear hK K))
            refine wpMix_nil ?_
            have hcr5 : CellsAt w4.drew wr.heap.size 1 r.pfx.cells := pfx_cells Hc4.out
            have hf5 : Fr noB w4 w4.drew := (Fr.refl _ _).drew
            clear hg0 a0 hcrp
            generalize w4.drew = w5 at hcr5 hf5 ⊢
            have Hf5 := hide (Hf4.out.tr hf5); have Hg5 := hide (Hfx.out.tr hf5)
            clear hf5
            go_wp2_with (refine wpList_load_at rfl 24 (.tmp 66) rfl wr.heap.size 1 rfl r.pfx.cells hcr5 _ Try.underlying24 rfl (by kernel_rfl) ?_)
            refine (doc_best w5 F g l (H.out.frN Hf5.out) table r.pfx ⟨ua, ul, uc⟩ up (SlOf.fr Hu.out Hf5.out (fun _ _ h => h) (fun _ h => h))).mono ?_
            rintro e w6 ⟨rfl, hf6⟩
            have Hf6 := hide (Hf5.out.tr hf6); have Hg6 := hide (Hg5.out.tr hf6)
            clear hf6 hcr5
            cases hbst : bestO l table r.pfx up with
            | none =>
              have HS := hide (show refAct l table up (k + 1) = refAct l table up k from by rw [refAct_snoc l table up k r Hx.out, HN.out, hbst]; simp)
              clear hbst
              unfold toBest bestV
              simp only
              go_wp2_with (refine wpList_store_new rfl 26 _ _ rfl _ _ (RouteM.cells _) _ rfl rfl (by simp) (by kernel_rfl) rfl (by kernel_rfl) ?_)
              go_roundw
              case rel => exact ⟨k + 1, ⟨s7a, s7l, s7c⟩, by have := Hsl.out; omega, rfl, by go_num, by rw [HS.out]; exact Hn.out.fr (Hg6.out.alloc _), Hf6.out.alloc _⟩
              case measure => have := Hsl.out; simp [intOf]; omega
            | some x =>
              have HS := hide (show refAct l table up (k + 1) = refAct l table up k ++ [x] from by rw [refAct_snoc l table up k r Hx.out, HN.out, hbst]; simp)
              clear hbst
              unfold toBest bestV
              simp only
              go_upto_region 9 with (refine wpList_store_new rfl 26 _ _ rfl _ _ (RouteM.cells _) _ rfl rfl (by simp) (by kernel_rfl) rfl (by kernel_rfl) ?_)
              refine wp_gen (fun W => CellsAt W w6.heap.size 0 x.cells ∧ Fr noB w6 W) ⟨cells_new _ _ _ rfl, (Fr.refl _ _).alloc _⟩ ?_
              rintro w7 ⟨hc7, hf7⟩
              have Hf7 := hide (Hf6.out.tr hf7); have Hn7 := hide (Hn.out.fr (Hg6.out.tr hf7))
              have hral := refAct_len l table up k
              clear hf7
              go_wp2_with (first | (refine wpList_load_at rfl 26 _ rfl _ _ rfl (RouteM.cells _) (by (repeat (first | assumption | exact cells_new _ _ _ (by simp) | refine CellsAt.alloc ?_ _ | refine CellsAt.drew ?_ | refine CellsAt.drewN ?_ _))) _ Try.underlying26 rfl (by kernel_rfl) ?_) | (refine wpList_buildSlice rfl 35 1 _ rfl #[(0, .agg x.cells.toArray)] (by kernel_rfl) Try.underlying35 (.agg zeroR.cells.toArray) 6 (by kernel_rfl) x.cells.toArray (by decide) (by decide) (by kernel_rfl) ?_) | (refine wpList_append_newD (w0 := w) (N := 6) (cells := RouteM.cells) (xs := refAct l table up k) (s := ⟨s7a, s7l, s7c⟩) (q := ⟨some ⟨w7.heap.size, 0, none⟩, 1, 1⟩) (ys := [x]) (ok := fun _ => True) rfl (.tmp 73) (.tmp 75) 35 rfl Try.underlying35 _ 48 route_info (by kernel_rfl) (by decide) RouteM.length RouteM.mem rfl (Hn7.out.fr ((Fr.refl noB w7).alloc _)) (Hf7.out.alloc _) rfl (slof_one RouteM.length _ trivial) (fun h => by cases h) (by simp [maxLen] <;> omega) (by simp <;> omega) ?_; intro s4 w8 hn4 hf4 hf4' hd4; have Hn8 := hide hn4; have Hf8 := hide hf4; clear hn4 hf4 hf4' hd4))
              go_roundw
              case rel => exact ⟨k + 1, s4, by have := Hsl.out; omega, rfl, by go_num, by rw [HS.out]; exact Hn8.out, Hf8.out⟩
              case measure => have := Hsl.out; simp [intOf]; omega
      · have g1 : decide (r.table = table) = false := decide_eq_false ht
        have g2 : (r.table == table) = false := by simp [ht]
        have g3 : (r.table != table) = true := by simp [ht]
        have g4 : decide (¬ r.table = table) = true := by simp [ht]
        have HN := hide (show newP l table k r = false from by unfold newP; simp [ht])
        repeat (first | (refine wpMix_skip rfl ?_; simp only [Act.put, List.setIfInBounds_toArray, List.set_cons_succ, List.set_cons_zero]) | (refine wpMix_calm rfl rfl (fun K hK => ?_); go_big_quiet_op; refine hK _ ?_; clear hK K))
        refine wpMix_nil ?_
        clear hg0 a0 hcrp
        go_wp2_with fail
        go_roundw
        case rel => exact ⟨k + 1, ⟨s7a, s7l, s7c⟩, by have := Hsl.out; omega, rfl, by go_num, by rw [refAct_snoc l table up k r Hx.out, HN.out]; exact Hn.out.fr Hfx.out.drew, Hf4.out.drew⟩
        case measure => have := Hsl.out; simp [intOf]; omega
    · have Hk := hide (show k = l.length from by have := Hsl.out; omega)
      go_wp2_with fail
      go_ret
      exact ⟨⟨s7a, s7l, s7c⟩, rfl, by have := Hn.out; rwa [Hk.out] at this, Hf1.out⟩
end Go.Proofs.Ytdmghildjadjeaa
