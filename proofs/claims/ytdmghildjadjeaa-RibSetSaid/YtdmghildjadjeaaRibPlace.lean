/- The document's answer to chapter 11: place. -/
import Derived.Test.YtdmghildjadjeaaRibDoc
namespace Go.Proofs.Ytdmghildjadjeaa
open Go.RowKit Go.BigFrame
set_option linter.unusedSimpArgs false
set_option linter.unusedVariables false
attribute [local irreducible] wpMix wpAnyG

def PlaceAt (l : List RouteM) (r : RouteM) (w0 : World) (i : Value) (wr : World) : Prop := ∃ k : Nat, k ≤ l.length ∧ i = .int .i64 k ∧ (∀ j x, j < k → l[j]? = some x → ltR x r) ∧ Fr noB w0 wr

set_option maxRecDepth 100000 in
set_option maxHeartbeats 2000000 in
theorem doc_place (w : World) (F : Nat → Prop) (g : Nat) (l : List RouteM) (h : Doc w F g l) (r : RouteM) :
    Calls Try.prog 45 #[.pointer (some ⟨g, 0, none⟩), .agg r.cells.toArray] w fun e w' => e = .returned (searchV l r) ∧ Fr noB w w' := by
  have H := hide h
  have hlen := h.len
  clear h
  go_enter Try.func45, Try.ntmps45
  go_upto_region 1 with (fail)
  refine wp_gen (fun W => CellsAt W w.heap.size 0 r.cells ∧ Fr noB w W) ⟨by (repeat (first | assumption | exact cells_new _ _ _ (by simp) | refine CellsAt.alloc ?_ _ | refine CellsAt.drew ?_ | refine CellsAt.drewN ?_ _)), (Fr.refl _ _).alloc _⟩ ?_
  rintro w1 ⟨hcr, hf⟩
  have Hcr := hide hcr; have Hf := hide hf
  clear hcr hf
  go_wp2_with fail
  go_loopw [6] (PlaceAt l r w1) (fun i _ => l.length - (intOf i).toNat)
  case atStart => exact ⟨0, Nat.zero_le _, rfl, fun j x hj => by omega, Fr.refl _ _⟩
  case round =>
    obtain ⟨k, hk, rfl, hno, hf1⟩ := hrel
    have Hno := hide hno; have Hf1 := hide hf1
    clear hno hf1
    obtain ⟨⟨⟨sa, sl, sc⟩, hblk, hown, hF2⟩, _⟩ := H.out.frN (Hf.out.tr Hf1.out)
    have hsl : sl = l.length := hown.1
    have hg0 : ∀ z : Grow wr, z.v.cell? ⟨g, 0, none⟩ = some (.slice sa sl sc) := fun z => (hblk.fr z.fr (fun h => h)).cell 0
    have hmax : sl ≤ 256 := by rw [hsl]; exact hlen
    have hcr1 : CellsAt wr w.heap.size 0 r.cells := Hcr.out.fr Hf1.out (fun h => h)
    have Hsl := hide hsl; have Hown := hide hown; have Hblk := hide hblk; have Hcr1 := hide hcr1
    clear hsl hblk hown hF2 hlen
    by_cases hlt : k < sl
    · have hk2 : k < l.length := by have := Hsl.out; omega
      have hx : l[k]? = some l[k] := List.getElem?_eq_getElem hk2
      generalize l[k] = x at hx
      obtain ⟨gs, rfl, _, hcx, _⟩ := own_at Hown.out RouteM.length hx
      have Hx := hide hx; have Hcx := hide hcx
      have hmul : ((k : Int) * 6).toNat = k * 6 := by omega
      clear hx hk
      go_upto_region 2 with (fail)
      refine wp_region_mix (fun W => ∃ z : Grow wr, W = z.v) (by kernel_rfl) (by kernel_rfl) (inGrow (Fr.refl _ _).drew) ?_
      iterate 14 (first | (refine wpMix_skip rfl ?_; simp only [Act.put, List.setIfInBounds_toArray, List.set_cons_succ, List.set_cons_zero]) | (refine wpMix_calm rfl rfl (fun K hK => ?_); go_big_quiet_op; refine hK _ ?_; clear hK K))
      refine wpMix_load_atw rfl 26 (.tmp 20) rfl gs (k * 6) (by go_simp) x.cells (fun W hW => by obtain ⟨z, rfl⟩ := hW; exact hcx.fr z.fr (fun h => h)) _ Try.underlying26 rfl (by kernel_rfl) ?_
      simp only [Act.put, List.setIfInBounds_toArray, List.set_cons_succ, List.set_cons_zero]
      refine wpMix_load_atw rfl 26 (.tmp 3) rfl w.heap.size 0 rfl r.cells (fun W hW => by obtain ⟨z, rfl⟩ := hW; exact hcr1.fr z.fr (fun h => h)) _ Try.underlying26 rfl (by kernel_rfl) ?_
      simp only [Act.put, List.setIfInBounds_toArray, List.set_cons_succ, List.set_cons_zero]
      refine wpMix_spine rfl rfl (fun K hK => ?_); go_wp2_with fail
      refine (ref_before x r _).mono ?_
      rintro e w3 ⟨rfl, hf3⟩
      have Hf3 := hide ((Fr.refl noB wr).drew.tr hf3)
      refine hK _ _ rfl (inGrow Hf3.out) ?_
      clear hK K hf3 hg0
      by_cases hb : ltR x r
      · rw [decide_eq_true hb]
        repeat (first | (refine wpMix_skip rfl ?_; simp only [Act.put, List.setIfInBounds_toArray, List.set_cons_succ, List.set_cons_zero]) | (refine wpMix_calm rfl rfl (fun K hK => ?_); go_big_quiet_op; refine hK _ ?_; clear hK K))
        refine wpMix_nil ?_
        have Hb := hide hb
        clear hb hcx hcr1
        go_wp2_with fail
        go_roundw
        case rel =>
          refine ⟨k + 1, by have := Hsl.out; omega, by go_num, fun j y hj hy => ?_, Hf1.out.tr Hf3.out⟩
          by_cases e : j = k
          · subst e
            rw [Hx.out] at hy
            obtain rfl := Option.some.inj hy
            exact Hb.out
          · exact Hno.out j y (by omega) hy
        case measure => have := Hsl.out; simp [intOf]; omega
      · rw [decide_eq_false hb]
        repeat (first | (refine wpMix_skip rfl ?_; simp only [Act.put, List.setIfInBounds_toArray, List.set_cons_succ, List.set_cons_zero]) | (refine wpMix_calm rfl rfl (fun K hK => ?_); go_big_quiet_op; refine hK _ ?_; clear hK K))
        refine wpMix_nil ?_
        have hpos : posR l r = k := posR_eq (by have := Hsl.out; omega) Hno.out (fun y hy => by rw [Hx.out] at hy; obtain rfl := Option.some.inj hy; exact hb)
        have hhas : hasR l r = !decide (ltR r x) := by
          rw [hasR_of (x := x) (by rw [hpos]; exact Hx.out), ← decide_not]
          apply decide_eq_decide.2
          have := not_ltR.1 hb
          constructor
          · intro h1 h2; exact ltR_irrefl r ((ltR_same (c := r) h1).2.1 h2)
          · intro h1; rcases this with h | h; exact h; exact absurd h h1
        have Hpos := hide hpos; have Hhas := hide hhas
        have hg3 : ∀ z : Grow w3, z.v.cell? ⟨g, 0, none⟩ = some (.slice (some ⟨gs, 0, none⟩) sl sc) := fun z => ((Hblk.out.fr Hf3.out (fun h => h)).fr z.fr (fun h => h)).cell 0
        have hcx3 : CellsAt w3 gs (k * 6) x.cells := Hcx.out.fr Hf3.out (fun h => h)
        have hcr3 : CellsAt w3 w.heap.size 0 r.cells := Hcr1.out.fr Hf3.out (fun h => h)
        clear hb hpos hhas hcx hcr1
        go_upto_region 4 with (fail)
        refine wp_region_mix (fun W => ∃ z : Grow w3, W = z.v) (by kernel_rfl) (by kernel_rfl) (inGrow (Fr.refl _ _).drew) ?_
        iterate 9 (first | (refine wpMix_skip rfl ?_; simp only [Act.put, List.setIfInBounds_toArray, List.set_cons_succ, List.set_cons_zero]) | (refine wpMix_calm rfl rfl (fun K hK => ?_); go_big_quiet_op; refine hK _ ?_; clear hK K))
        refine wpMix_load_atw rfl 26 (.tmp 3) rfl w.heap.size 0 rfl r.cells (fun W hW => by obtain ⟨z, rfl⟩ := hW; exact hcr3.fr z.fr (fun h => h)) _ Try.underlying26 rfl (by kernel_rfl) ?_
        simp only [Act.put, List.setIfInBounds_toArray, List.set_cons_succ, List.set_cons_zero]
        iterate 6 (first | (refine wpMix_skip rfl ?_; simp only [Act.put, List.setIfInBounds_toArray, List.set_cons_succ, List.set_cons_zero]) | (refine wpMix_calm rfl rfl (fun K hK => ?_); go_big_quiet_op; refine hK _ ?_; clear hK K))
        refine wpMix_load_atw rfl 26 (.tmp 42) rfl gs (k * 6) (by go_simp) x.cells (fun W hW => by obtain ⟨z, rfl⟩ := hW; exact hcx3.fr z.fr (fun h => h)) _ Try.underlying26 rfl (by kernel_rfl) ?_
        simp only [Act.put, List.setIfInBounds_toArray, List.set_cons_succ, List.set_cons_zero]
        refine wpMix_spine rfl rfl (fun K hK => ?_); go_wp2_with fail
        refine (ref_before r x _).mono ?_
        rintro e w4 ⟨rfl, hf4⟩
        have Hf4 := hide ((Fr.refl noB w3).drew.tr hf4)
        refine hK _ _ rfl (inGrow Hf4.out) ?_
        clear hK K hf4 hg3 hcx3 hcr3
        repeat (first | (refine wpMix_skip rfl ?_; simp only [Act.put, List.setIfInBounds_toArray, List.set_cons_succ, List.set_cons_zero]) | (refine wpMix_calm rfl rfl (fun K hK => ?_); go_big_quiet_op; refine hK _ ?_; clear hK K))
        refine wpMix_nil ?_
        go_wp2_with fail
        go_ret2
        refine ⟨?_, (Hf.out.tr Hf1.out).tr (Hf3.out.tr Hf4.out)⟩
        unfold searchV
        rw [Hpos.out, Hhas.out]
        rfl
    · have hpos : posR l r = k := posR_eq hk Hno.out (fun y hy => by have := (List.getElem?_eq_some_iff.1 hy).1; have := Hsl.out; omega)
      have hhas : hasR l r = false := hasR_end (by rw [hpos]; exact List.getElem?_eq_none (by have := Hsl.out; omega))
      have Hpos := hide hpos; have Hhas := hide hhas
      clear hpos hhas hk
      go_upto_region 2 with (fail)
      refine wp_region_mix (fun W => ∃ z : Grow wr, W = z.v) (by kernel_rfl) (by kernel_rfl) (inGrow (Fr.refl _ _).drew) ?_
      repeat (first | (refine wpMix_skip rfl ?_; simp only [Act.put, List.setIfInBounds_toArray, List.set_cons_succ, List.set_cons_zero]) | (refine wpMix_calm rfl rfl (fun K hK => ?_); go_big_quiet_op; refine hK _ ?_; clear hK K))
      refine wpMix_nil ?_
      have hg3 : ∀ z : Grow wr.drew, z.v.cell? ⟨g, 0, none⟩ = some (.slice sa sl sc) := fun z => (Blk.fr (Blk.drew Hblk.out) z.fr (fun h => h)).cell 0
      clear hg0
      go_upto_region 4 with (fail)
      refine wp_region_mix (fun W => ∃ z : Grow wr.drew, W = z.v) (by kernel_rfl) (by kernel_rfl) (inGrow (Fr.refl _ _).drew) ?_
      repeat (first | (refine wpMix_skip rfl ?_; simp only [Act.put, List.setIfInBounds_toArray, List.set_cons_succ, List.set_cons_zero]) | (refine wpMix_calm rfl rfl (fun K hK => ?_); go_big_quiet_op; refine hK _ ?_; clear hK K))
      refine wpMix_nil ?_
      go_wp2_with fail
      go_ret2
      refine ⟨?_, ((Hf.out.tr Hf1.out).drew).drew⟩
      unfold searchV
      rw [Hpos.out, Hhas.out]
      rfl
end Go.Proofs.Ytdmghildjadjeaa
