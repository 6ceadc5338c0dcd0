/- The document's answer to chapter 11: Best. -/
import Derived.Test.YtdmghildjadjeaaRibDocDel
namespace Go.Proofs.Ytdmghildjadjeaa
open Go.RowKit Go.BigFrame
set_option linter.unusedSimpArgs false
set_option linter.unusedVariables false
attribute [local irreducible] wpMix wpAnyG

def fitsR (table : Int) (p : PrefixM) (up : List Bool) (r : RouteM) : Prop := r.table = table ∧ r.pfx = p ∧ upB up r.iface = true
instance (table : Int) (p : PrefixM) (up : List Bool) (r : RouteM) : Decidable (fitsR table p up r) := by unfold fitsR; infer_instance
def stepO (table : Int) (p : PrefixM) (up : List Bool) (acc : Option RouteM) (r : RouteM) : Option RouteM :=
  if fitsR table p up r then (match acc with | none => some r | some y => if betR r y then some r else some y) else acc
def bestO (l : List RouteM) (table : Int) (p : PrefixM) (up : List Bool) : Option RouteM := l.foldl (stepO table p up) none
theorem bestO_snoc (l : List RouteM) (table : Int) (p : PrefixM) (up : List Bool) (k : Nat) (r : RouteM) (h : l[k]? = some r) : bestO (l.take (k + 1)) table p up = stepO table p up (bestO (l.take k) table p up) r := by
  unfold bestO
  rw [List.take_add_one, h]
  simp
def BestOf (l : List RouteM) (b : Value) (o : Option RouteM) : Prop := (b = .int .i64 (-1) ∧ o = none) ∨ ∃ (m : Nat) (y : RouteM), b = .int .i64 m ∧ l[m]? = some y ∧ o = some y
def BstAt (l : List RouteM) (table : Int) (p : PrefixM) (up : List Bool) (w0 : World) (b i : Value) (wr : World) : Prop := ∃ k : Nat, k ≤ l.length ∧ i = .int .i64 k ∧ BestOf l b (bestO (l.take k) table p up) ∧ Fr noB w0 wr

set_option maxRecDepth 100000 in
set_option maxHeartbeats 4000000 in
theorem doc_best (w : World) (F : Nat → Prop) (g : Nat) (l : List RouteM) (h : Doc w F g l) (table : Int) (p : PrefixM) (su : SlV) (up : List Bool) (hu : Ups w su up) :
    Calls Try.prog 19 #[.pointer (some ⟨g, 0, none⟩), .int .i64 table, .agg p.cells.toArray, .slice su.a su.len su.cap] w fun e w' => e = .returned (bestV (toBest (bestO l table p up))) ∧ Fr noB w w' := by
  have H := hide h; have Hu := hide hu
  have hlen := h.len
  clear h hu
  obtain ⟨ua, ul, uc⟩ := su
  simp only
  go_enter Try.func19, Try.ntmps19
  go_upto_region 1 with (fail)
  refine wp_gen (fun W => CellsAt W w.heap.size 0 p.cells ∧ Blk W (w.heap.size + 1) zeroR.cells.toArray 26 ∧ Fr noB w W) ⟨by (repeat (first | assumption | exact cells_new _ _ _ (by simp) | refine CellsAt.alloc ?_ _ | refine CellsAt.drew ?_ | refine CellsAt.drewN ?_ _)), ?_, ((Fr.refl _ _).alloc _).alloc _⟩ ?_
  · have h := Blk.alloc_new (w.alloc (.cells p.cells.toArray 24)) zeroR.cells.toArray 26
    rw [World.size_alloc] at h
    exact h
  rintro w1 ⟨hcp, hb, hf⟩
  have Hcp := hide hcp; have HB := hide hb; have Hf := hide hf
  clear hcp hb hf
  go_wp2_with fail
  go_loopw [10, 11] (BstAt l table p up w1) (fun _ i _ => l.length - (intOf i).toNat)
  case atStart => exact ⟨0, Nat.zero_le _, rfl, .inl ⟨rfl, rfl⟩, Fr.refl _ _⟩
  case round =>
    obtain ⟨k, hk, rfl, hbo, hf1⟩ := hrel
    have Hf1 := hide hf1
    clear hf1
    obtain ⟨⟨⟨sa, sl, sc⟩, hblk, hown, hF2⟩, _⟩ := H.out.frN (Hf.out.tr Hf1.out)
    have hsl : sl = l.length := hown.1
    have c0 : wr.cell? ⟨g, 0, none⟩ = some (.slice sa sl sc) := hblk.cell 0
    have hmax : sl ≤ 256 := by rw [hsl]; exact hlen
    have Hsl := hide hsl; have Hown := hide hown; have Hblk := hide hblk
    clear hsl hblk hown hF2
    by_cases hlt : k < sl
    · have hk2 : k < l.length := by have := Hsl.out; omega
      have hx : l[k]? = some l[k] := List.getElem?_eq_getElem hk2
      generalize l[k] = r at hx
      obtain ⟨gs, rfl, _, hcx, _⟩ := own_at Hown.out RouteM.length hx
      have hstep := bestO_snoc l table p up k r hx
      have Hx := hide hx; have Hstep := hide hstep
      have hmul : ((k : Int) * 6).toNat = k * 6 := by omega
      clear hx hk hstep
      go_upto_region 6 with (first | (refine wpList_load_at rfl 26 _ rfl _ _ rfl (RouteM.cells _) (by (repeat (first | assumption | exact cells_new _ _ _ (by simp) | refine CellsAt.alloc ?_ _ | refine CellsAt.drew ?_ | refine CellsAt.drewN ?_ _))) _ Try.underlying26 rfl (by kernel_rfl) ?_) | (refine wpList_store_new rfl 26 _ _ rfl _ _ (RouteM.cells _) _ rfl rfl (by simp) (by kernel_rfl) rfl (by kernel_rfl) ?_))
      simp only [Act.put, List.setIfInBounds_toArray, List.set_cons_succ, List.set_cons_zero]
      refine wp_gen (fun W => CellsAt W wr.heap.size 0 r.cells ∧ Fr noB wr W) ⟨cells_new _ _ _ rfl, (Fr.refl _ _).alloc _⟩ ?_
      rintro w4 ⟨hc4, hf4⟩
      have Hc4 := hide hc4; have Hf4 := hide (Hf1.out.tr hf4); have Hfx := hide hf4
      have hcrp := pfx_cells hc4
      have hcp4 : CellsAt w4 w.heap.size 0 p.cells := Hcp.out.fr Hf4.out (fun h => h)
      have Hblk4 := hide (Hblk.out.fr hf4 (fun h => h))
      have hg0 : ∀ z : Grow w4, z.v.cell? ⟨g, 0, none⟩ = some (.slice (some ⟨gs, 0, none⟩) sl sc) := fun z => (Hblk4.out.fr z.fr (fun h => h)).cell 0
      obtain ⟨a0, _, _, a3, _, _⟩ := route_grow hc4
      simp only [Nat.zero_add] at a3
      clear c0 hcx hf4
      refine wp_region_mix (fun W => ∃ z : Grow w4, W = z.v) (by kernel_rfl) (by kernel_rfl) (inGrow (Fr.refl _ _).drew) ?_
      have skipped : ∀ o, ¬ fitsR table p up r → stepO table p up o r = o := fun o h => by unfold stepO; rw [if_neg h]
      by_cases ht : r.table = table
      · iterate 6 (first | (refine wpMix_skip rfl ?_; simp only [Act.put, List.setIfInBounds_toArray, List.set_cons_succ, List.set_cons_zero]) | (refine wpMix_calm rfl rfl (fun K hK => ?_); go_big_quiet_op; refine hK _ ?_; clear hK K))
        refine wpMix_load_atw rfl 24 (.tmp 34) rfl wr.heap.size 1 rfl r.pfx.cells (fun W hW => by obtain ⟨z, rfl⟩ := hW; exact hcrp.fr z.fr (fun h => h)) _ Try.underlying24 rfl (by kernel_rfl) ?_
        simp only [Act.put, List.setIfInBounds_toArray, List.set_cons_succ, List.set_cons_zero]
        refine wpMix_load_atw rfl 24 (.tmp 6) rfl w.heap.size 0 rfl p.cells (fun W hW => by obtain ⟨z, rfl⟩ := hW; exact hcp4.fr z.fr (fun h => h)) _ Try.underlying24 rfl (by kernel_rfl) ?_
        simp only [Act.put, List.setIfInBounds_toArray, List.set_cons_succ, List.set_cons_zero]
        by_cases hpp : r.pfx = p
        · refine wpMix_eqs rfl false 24 (.tmp 35) (.tmp 36) rfl r.pfx.cells.toArray p.cells.toArray rfl rfl true (by kernel_rfl) (fun w => by rw [prefix_equal, decide_eq_true hpp]) ?_
          simp only [Act.put, List.setIfInBounds_toArray, List.set_cons_succ, List.set_cons_zero]
          iterate 5 (first | (refine wpMix_skip rfl ?_; simp only [Act.put, List.setIfInBounds_toArray, List.set_cons_succ, List.set_cons_zero]) | (refine wpMix_calm rfl rfl (fun K hK => ?_); go_big_quiet_op; refine hK _ ?_; clear hK K))
          refine wpMix_spine rfl rfl (fun K hK => ?_); go_wp2_with fail
          refine (ref_on ⟨ua, ul, uc⟩ up w4.drew (SlOf.fr Hu.out ((Hf.out.tr Hf4.out).drew) (fun _ _ h => h) (fun _ h => h)) r.iface).mono ?_
          rintro e w5 ⟨rfl, hf5⟩
          have Hf5 := hide ((Fr.refl noB w4).drew.tr hf5)
          refine hK _ _ rfl (inGrow Hf5.out) ?_
          clear hK K hf5
          cases hup : upB up r.iface with
          | true =>
            have hfit : fitsR table p up r := ⟨ht, hpp, hup⟩
            rcases hbo with ⟨rfl, hbn⟩ | ⟨m, y, rfl, hy, hby⟩
            · have HS := hide (show stepO table p up (bestO (l.take k) table p up) r = some r from by unfold stepO; rw [if_pos hfit, hbn])
              repeat (first | (refine wpMix_skip rfl ?_; simp only [Act.put, List.setIfInBounds_toArray, List.set_cons_succ, List.set_cons_zero]) | (refine wpMix_calm rfl rfl (fun K hK => ?_); go_big_quiet_op; refine hK _ ?_; clear hK K))
              refine wpMix_nil ?_
              clear hg0 a0 a3 hcrp hcp4 hpp hup hbn hfit
              go_wp2_with fail
              go_roundw
              case rel => exact ⟨k + 1, by have := Hsl.out; omega, by go_num, .inr ⟨k, r, rfl, Hx.out, by rw [Hstep.out]; exact HS.out⟩, Hf4.out.tr Hf5.out⟩
              case measure => have := Hsl.out; simp [intOf]; omega
            · have HS := hide (show stepO table p up (bestO (l.take k) table p up) r = (if betR r y then some r else some y) from by unfold stepO; rw [if_pos hfit, hby])
              have hml : m < sl := by have := (List.getElem?_eq_some_iff.1 hy).1; have := Hsl.out; omega
              have hmul2 : ((m : Int) * 6).toNat = m * 6 := by omega
              have Hy := hide hy
              have hcy : CellsAt w4 gs (m * 6) y.cells := by
                obtain ⟨g', hg', _, h, _⟩ := own_at Hown.out RouteM.length hy
                simp only [Option.some.injEq, Addr.mk.injEq, and_true] at hg'
                subst hg'
                exact h.fr Hfx.out (fun (e : noB gs) => e)
              iterate 5 (first | (refine wpMix_skip rfl ?_; simp only [Act.put, List.setIfInBounds_toArray, List.set_cons_succ, List.set_cons_zero]) | (refine wpMix_calm rfl rfl (fun K hK => ?_); go_big_quiet_op; refine hK _ ?_; clear hK K))
              refine wpMix_load_atw rfl 26 (.tmp 12) rfl wr.heap.size 0 rfl r.cells (fun W hW => by obtain ⟨z, rfl⟩ := hW; exact Hc4.out.fr z.fr (fun h => h)) _ Try.underlying26 rfl (by kernel_rfl) ?_
              simp only [Act.put, List.setIfInBounds_toArray, List.set_cons_succ, List.set_cons_zero]
              iterate 6 (first | (refine wpMix_skip rfl ?_; simp only [Act.put, List.setIfInBounds_toArray, List.set_cons_succ, List.set_cons_zero]) | (refine wpMix_calm rfl rfl (fun K hK => ?_); go_big_quiet_op; refine hK _ ?_; clear hK K))
              refine wpMix_load_atw rfl 26 (.tmp 55) rfl gs (m * 6) (by go_simp) y.cells (fun W hW => by obtain ⟨z, rfl⟩ := hW; exact hcy.fr z.fr (fun h => h)) _ Try.underlying26 rfl (by kernel_rfl) ?_
              simp only [Act.put, List.setIfInBounds_toArray, List.set_cons_succ, List.set_cons_zero]
              refine wpMix_spine rfl rfl (fun K hK => ?_); go_wp2_with fail
              refine (ref_better r y _).mono ?_
              rintro e w6 ⟨rfl, hf6⟩
              have Hf6 := hide (Hf5.out.tr hf6)
              refine hK _ _ rfl (inGrow Hf6.out) ?_
              clear hK K hf6
              by_cases hbet : betR r y
              · rw [if_pos hbet] at HS
                rw [decide_eq_true hbet]
                repeat (first | (refine wpMix_skip rfl ?_; simp only [Act.put, List.setIfInBounds_toArray, List.set_cons_succ, List.set_cons_zero]) | (refine wpMix_calm rfl rfl (fun K hK => ?_); go_big_quiet_op; refine hK _ ?_; clear hK K))
                refine wpMix_nil ?_
                clear hg0 a0 a3 hcrp hcp4 hpp hup hby hfit hbet hcy hy
                go_wp2_with fail
                go_roundw
                case rel => exact ⟨k + 1, by have := Hsl.out; omega, by go_num, .inr ⟨k, r, rfl, Hx.out, by rw [Hstep.out]; exact HS.out⟩, Hf4.out.tr Hf6.out⟩
                case measure => have := Hsl.out; simp [intOf]; omega
              · rw [if_neg hbet] at HS
                rw [decide_eq_false hbet]
                repeat (first | (refine wpMix_skip rfl ?_; simp only [Act.put, List.setIfInBounds_toArray, List.set_cons_succ, List.set_cons_zero]) | (refine wpMix_calm rfl rfl (fun K hK => ?_); go_big_quiet_op; refine hK _ ?_; clear hK K))
                refine wpMix_nil ?_
                clear hg0 a0 a3 hcrp hcp4 hpp hup hby hfit hbet hcy hy
                go_wp2_with fail
                go_roundw
                case rel => exact ⟨k + 1, by have := Hsl.out; omega, by go_num, .inr ⟨m, y, rfl, Hy.out, by rw [Hstep.out]; exact HS.out⟩, Hf4.out.tr Hf6.out⟩
                case measure => have := Hsl.out; simp [intOf]; omega
          | false =>
            have HS := hide (skipped (bestO (l.take k) table p up) (fun h => by have := h.2.2; rw [hup] at this; cases this))
            repeat (first | (refine wpMix_skip rfl ?_; simp only [Act.put, List.setIfInBounds_toArray, List.set_cons_succ, List.set_cons_zero]) | (refine wpMix_calm rfl rfl (fun K hK => ?_); go_big_quiet_op; refine hK _ ?_; clear hK K))
            refine wpMix_nil ?_
            have Hbo := hide hbo
            clear hg0 a0 a3 hcrp hcp4 hpp hup hbo
            go_wp2_with fail
            go_roundw
            case rel => exact ⟨k + 1, by have := Hsl.out; omega, by go_num, by rw [Hstep.out, HS.out]; exact Hbo.out, Hf4.out.tr Hf5.out⟩
            case measure => have := Hsl.out; simp [intOf]; omega
        · refine wpMix_eqs rfl false 24 (.tmp 35) (.tmp 36) rfl r.pfx.cells.toArray p.cells.toArray rfl rfl false (by kernel_rfl) (fun w => by rw [prefix_equal, decide_eq_false hpp]) ?_
          simp only [Act.put, List.setIfInBounds_toArray, List.set_cons_succ, List.set_cons_zero]
          repeat (first | (refine wpMix_skip rfl ?_; simp only [Act.put, List.setIfInBounds_toArray, List.set_cons_succ, List.set_cons_zero]) | (refine wpMix_calm rfl rfl (fun K hK => ?_); go_big_quiet_op; refine hK _ ?_; clear hK K))
          refine wpMix_nil ?_
          have HS := hide (skipped (bestO (l.take k) table p up) (fun h => hpp h.2.1))
          have Hbo := hide hbo
          clear hg0 a0 a3 hcrp hcp4 hpp hbo
          go_wp2_with fail
          go_roundw
          case rel => exact ⟨k + 1, by have := Hsl.out; omega, by go_num, by rw [Hstep.out, HS.out]; exact Hbo.out, Hf4.out.drew⟩
          case measure => have := Hsl.out; simp [intOf]; omega
      · have g1 : decide (r.table = table) = false := decide_eq_false ht
        have g2 : (r.table == table) = false := by simp [ht]
        repeat (first | (refine wpMix_skip rfl ?_; simp only [Act.put, List.setIfInBounds_toArray, List.set_cons_succ, List.set_cons_zero]) | (refine wpMix_calm rfl rfl (fun K hK => ?_); go_big_quiet_op; refine hK _ ?_; clear hK K))
        refine wpMix_nil ?_
        have HS := hide (skipped (bestO (l.take k) table p up) (fun h => ht h.1))
        have Hbo := hide hbo
        clear hg0 a0 a3 hcrp hcp4 hbo
        go_wp2_with fail
        go_roundw
        case rel => exact ⟨k + 1, by have := Hsl.out; omega, by go_num, by rw [Hstep.out, HS.out]; exact Hbo.out, Hf4.out.drew⟩
        case measure => have := Hsl.out; simp [intOf]; omega
    · have hk' : k = l.length := by have := Hsl.out; omega
      rw [hk', List.take_length] at hbo
      have HB1 := hide (HB.out.fr Hf1.out (fun h => h))
      rcases hbo with ⟨rfl, hbn⟩ | ⟨m, y, rfl, hy, hby⟩
      · have HR := hide hbn
        clear hbn hk'
        go_wp2_with (refine wpList_store_row rfl 26 (.tmp 8) (.tmp 63) rfl _ zeroR.cells.toArray rfl rfl _ _ HB1.out (by kernel_rfl) rfl (RouteM.onea _) ?_)
        rw [HR.out]
        exact bodyPost_ret (v := bestV ⟨zeroR, false⟩) (results_ft Try.results19 _ _ _ 0 zeroR.cells _ rfl (Blk.cells (HB1.out.setRow)) Try.underlying26 rfl (by kernel_rfl) _ rfl) rfl ⟨rfl, (Hf.out.tr Hf1.out).setRow (.inl (by omega)) _⟩
      · have HR := hide hby
        obtain ⟨gs, rfl, _, hcy, _⟩ := own_at Hown.out RouteM.length hy
        have hml : m < sl := by have := (List.getElem?_eq_some_iff.1 hy).1; have := Hsl.out; omega
        have hmul2 : ((m : Int) * 6).toNat = m * 6 := by omega
        clear hby hk' hy
        go_wp2_with (first | (refine wpList_load_at rfl 26 _ rfl _ _ rfl (RouteM.cells _) (by (repeat (first | assumption | exact cells_new _ _ _ (by simp) | refine CellsAt.alloc ?_ _ | refine CellsAt.drew ?_ | refine CellsAt.drewN ?_ _))) _ Try.underlying26 rfl (by kernel_rfl) ?_) | (refine wpList_store_row rfl 26 (.tmp 8) (.tmp 70) rfl _ y.cells.toArray rfl rfl _ _ HB1.out (by kernel_rfl) rfl (RouteM.onea _) ?_))
        rw [HR.out]
        exact bodyPost_ret (v := bestV ⟨y, true⟩) (results_ft Try.results19 _ _ _ 0 y.cells _ rfl (Blk.cells (HB1.out.setRow)) Try.underlying26 rfl (by kernel_rfl) _ rfl) rfl ⟨rfl, (Hf.out.tr Hf1.out).setRow (.inl (by omega)) _⟩
end Go.Proofs.Ytdmghildjadjeaa
