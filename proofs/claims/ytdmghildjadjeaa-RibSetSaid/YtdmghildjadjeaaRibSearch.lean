/- slices.BinarySearchFunc over routes. -/
import Derived.Test.YtdmghildjadjeaaRibBase
namespace Go.Proofs.Ytdmghildjadjeaa
open Go.RowKit Go.BigFrame
set_option linter.unusedSimpArgs false
set_option linter.unusedVariables false
attribute [local irreducible] wpMix wpAnyG

def searchV (l : List RouteM) (r : RouteM) : Value := .tuple #[.int .i64 (posR l r), .bool (hasR l r)]
def FindAt (l : List RouteM) (r : RouteM) (w0 : World) (i j : Value) (wr : World) : Prop := ∃ a b : Nat, i = .int .i64 a ∧ j = .int .i64 b ∧ a ≤ b ∧ b ≤ l.length ∧ (∀ k x, k < a → l[k]? = some x → ltR x r) ∧ (∀ k x, b ≤ k → l[k]? = some x → ¬ ltR x r) ∧ Fr noB w0 wr

set_option maxHeartbeats 1000000 in
theorem rib_search (w : World) (s : SlV) (l : List RouteM) (r : RouteM) (hs : OwnL w 26 6 RouteM.cells s l) (hsort : SortedR l) (hlen : l.length ≤ 256) :
    Calls Try.prog 31 #[.slice s.a s.len s.cap, .agg r.cells.toArray, .func (.func 32) #[] #[]] w fun e w' => e = .returned (searchV l r) ∧ Fr noB w w' := by
  have Hs := hide hs; have Hsort := hide hsort
  have Hsl := hide hs.1
  obtain ⟨n, hn⟩ : ∃ n, n = l.length := ⟨_, rfl⟩
  have Hn := hide hn
  obtain ⟨sa, sl, sc⟩ := s
  have hn256 : sl ≤ 256 := by have h := Hsl.out; have h2 := Hn.out; have h3 : sl = l.length := h; omega
  clear hs hsort hn
  simp only at Hsl ⊢
  clear hlen
  go_enter Try.func31, Try.ntmps31
  go_upto_region 1 with (fail)
  refine wp_gen (fun W => CellsAt W w.heap.size 0 r.cells ∧ Fr noB w W) ⟨by (repeat (first | assumption | exact cells_new _ _ _ (by simp) | refine CellsAt.alloc ?_ _ | refine CellsAt.drew ?_ | refine CellsAt.drewN ?_ _)), (Fr.refl _ _).alloc _⟩ ?_
  rintro w1 ⟨hcr, hf⟩
  have Hcr := hide hcr; have Hf := hide hf
  clear hcr hf
  go_wp2_with fail
  go_loopw [9, 10] (FindAt l r w1) (fun i j _ => (intOf j - intOf i).toNat)
  case atStart => exact ⟨0, sl, rfl, rfl, Nat.zero_le _, by have := Hsl.out; omega, fun k x hk => by omega, fun k x hk hx => by have := (List.getElem?_eq_some_iff.1 hx).1; have := Hsl.out; omega, Fr.refl _ _⟩
  case round =>
    obtain ⟨lo, hi, rfl, rfl, hlh, hhl, hb, ha, hf2⟩ := hrel
    have Hb := hide hb; have Ha := hide ha; have Hf2 := hide hf2
    have hhi : hi ≤ sl := by have := Hsl.out; omega
    clear hb ha hf2 hhl
    have Hcr2 := hide (Hcr.out.fr Hf2.out (fun h => h)); have Hs2 := hide (Hs.out.fr (Hf.out.tr Hf2.out) (fun _ _ h => h))
    by_cases hlt : lo < hi
    · obtain ⟨m, hm⟩ : ∃ m, m = (lo + hi) / 2 := ⟨_, rfl⟩
      have hm1 : lo ≤ m := by omega
      have hm2 : m < hi := by omega
      have hmi : ((lo : Int) + (hi : Int)) / 2 = (m : Int) := by omega
      have hml : m < l.length := by have := Hsl.out; omega
      have hx : l[m]? = some l[m] := List.getElem?_eq_getElem hml
      generalize l[m] = x at hx
      obtain ⟨g, rfl, hml2, hcx, _⟩ := own_at Hs2.out RouteM.length hx
      have hml2 : m < sl := hml2
      have Hx := hide hx; have Hm := hide hm; have Hcx := hide hcx
      have hmul : ((m : Int) * 6).toNat = m * 6 := by omega
      clear hx hm hcx hml
      go_upto_region 5 with (fail)
      refine wp_region_mix (fun W => ∃ z : Grow wr, W = z.v) (by kernel_rfl) (by kernel_rfl) (inGrow (Fr.refl _ _).drew) ?_
      iterate 4 (first | (refine wpMix_skip rfl ?_; simp only [Act.put, List.setIfInBounds_toArray, List.set_cons_succ, List.set_cons_zero]) | (refine wpMix_calm rfl rfl (fun K hK => ?_); go_big_quiet_op; refine hK _ ?_; clear hK K))
      refine wpMix_load_atw rfl 26 (.tmp 27) rfl g (m * 6) (by go_simp) x.cells (fun W hW => by obtain ⟨z, rfl⟩ := hW; exact Hcx.out.fr z.fr (fun h => h)) _ Try.underlying26 rfl (by kernel_rfl) ?_
      simp only [Act.put, List.setIfInBounds_toArray, List.set_cons_succ, List.set_cons_zero]
      refine wpMix_load_atw rfl 26 (.tmp 4) rfl w.heap.size 0 (by go_simp) r.cells (fun W hW => by obtain ⟨z, rfl⟩ := hW; exact Hcr2.out.fr z.fr (fun h => h)) _ Try.underlying26 rfl (by kernel_rfl) ?_
      simp only [Act.put, List.setIfInBounds_toArray, List.set_cons_succ, List.set_cons_zero]
      refine wpMix_spine rfl rfl (fun K hK => ?_); go_wp2_with fail
      refine (rib_order x r _).mono ?_
      rintro e w' ⟨rfl, hf3⟩
      have Hf3 := hide ((Fr.refl noB wr).drew.tr hf3)
      refine hK _ _ rfl (inGrow Hf3.out) ?_
      clear hK K hf3
      repeat (first | (refine wpMix_skip rfl ?_; simp only [Act.put, List.setIfInBounds_toArray, List.set_cons_succ, List.set_cons_zero]) | (refine wpMix_calm rfl rfl (fun K hK => ?_); go_big_quiet_op; refine hK _ ?_; clear hK K))
      refine wpMix_nil ?_
      by_cases ho : ordI x r < 0
      · have Ho := hide ((ordI_lt x r).1 ho)
        go_wp2_with fail
        go_roundw
        case rel =>
          refine ⟨m + 1, hi, by go_num, rfl, by omega, by have := Hsl.out; omega, fun k y hk hy => ?_, Ha.out, Hf2.out.tr Hf3.out⟩
          by_cases e : k = m
          · subst e
            rw [Hx.out] at hy
            obtain rfl := Option.some.inj hy
            exact Ho.out
          · exact ltR_trans (Hsort.out.get (by omega) hy Hx.out) Ho.out
        case measure => simp [intOf]; omega
      · have Ho := hide (fun h => ho ((ordI_lt x r).2 h))
        go_wp2_with fail
        go_roundw
        case rel =>
          refine ⟨lo, m, rfl, rfl, by omega, by have := Hsl.out; omega, Hb.out, fun k y hk hy => ?_, Hf2.out.tr Hf3.out⟩
          by_cases e : k = m
          · subst e
            rw [Hx.out] at hy
            obtain rfl := Option.some.inj hy
            exact Ho.out
          · exact fun h => Ho.out (ltR_trans (Hsort.out.get (by omega) Hx.out hy) h)
        case measure => simp [intOf]; omega
    · have heq : hi = lo := by omega
      subst heq
      have Hpos := hide (show posR l r = hi from posR_eq (by have := Hsl.out; omega) Hb.out (fun x hx => Ha.out _ x (Nat.le_refl _) hx))
      by_cases hlast : hi < sl
      · have hml : hi < l.length := by have := Hsl.out; omega
        have hx : l[hi]? = some l[hi] := List.getElem?_eq_getElem hml
        generalize l[hi] = x at hx
        obtain ⟨g, rfl, hml2, hcx, _⟩ := own_at Hs2.out RouteM.length hx
        have hml2 : hi < sl := hml2
        have Hhas := hide (show hasR l r = decide (ordI x r = 0) from by rw [hasR_of (x := x) (by rw [Hpos.out]; exact hx)]; exact decide_eq_decide.2 (ordI_eq x r).symm)
        have Hcx := hide hcx
        have hmul : ((hi : Int) * 6).toNat = hi * 6 := by omega
        clear hx hcx hml
        go_upto_region 8 with (fail)
        refine wp_region_mix (fun W => ∃ z : Grow wr, W = z.v) (by kernel_rfl) (by kernel_rfl) (inGrow (Fr.refl _ _).drew) ?_
        iterate 9 (first | (refine wpMix_skip rfl ?_; simp only [Act.put, List.setIfInBounds_toArray, List.set_cons_succ, List.set_cons_zero]) | (refine wpMix_calm rfl rfl (fun K hK => ?_); go_big_quiet_op; refine hK _ ?_; clear hK K))
        refine wpMix_load_atw rfl 26 (.tmp 43) rfl g (hi * 6) (by go_simp) x.cells (fun W hW => by obtain ⟨z, rfl⟩ := hW; exact Hcx.out.fr z.fr (fun h => h)) _ Try.underlying26 rfl (by kernel_rfl) ?_
        simp only [Act.put, List.setIfInBounds_toArray, List.set_cons_succ, List.set_cons_zero]
        refine wpMix_load_atw rfl 26 (.tmp 4) rfl w.heap.size 0 (by go_simp) r.cells (fun W hW => by obtain ⟨z, rfl⟩ := hW; exact Hcr2.out.fr z.fr (fun h => h)) _ Try.underlying26 rfl (by kernel_rfl) ?_
        simp only [Act.put, List.setIfInBounds_toArray, List.set_cons_succ, List.set_cons_zero]
        refine wpMix_spine rfl rfl (fun K hK => ?_); go_wp2_with fail
        refine (rib_order x r _).mono ?_
        rintro e w' ⟨rfl, hf3⟩
        have Hf3 := hide ((Fr.refl noB wr).drew.tr hf3)
        refine hK _ _ rfl (inGrow Hf3.out) ?_
        clear hK K hf3
        repeat (first | (refine wpMix_skip rfl ?_; simp only [Act.put, List.setIfInBounds_toArray, List.set_cons_succ, List.set_cons_zero]) | (refine wpMix_calm rfl rfl (fun K hK => ?_); go_big_quiet_op; refine hK _ ?_; clear hK K))
        refine wpMix_nil ?_
        go_wp2_with fail
        go_ret2
        refine ⟨?_, (Hf.out.tr Hf2.out).tr Hf3.out⟩
        unfold searchV
        rw [Hpos.out, Hhas.out]
        simp
        by_cases e : ordI x r = 0 <;> simp [e]
      · have Hhas := hide (show hasR l r = false from hasR_end (by rw [Hpos.out]; exact List.getElem?_eq_none (by have := Hsl.out; omega)))
        go_upto_region 8 with (fail)
        refine wp_region_mix (fun W => ∃ z : Grow wr, W = z.v) (by kernel_rfl) (by kernel_rfl) (inGrow (Fr.refl _ _).drew) ?_
        repeat (first | (refine wpMix_skip rfl ?_; simp only [Act.put, List.setIfInBounds_toArray, List.set_cons_succ, List.set_cons_zero]) | (refine wpMix_calm rfl rfl (fun K hK => ?_); go_big_quiet_op; refine hK _ ?_; clear hK K))
        refine wpMix_nil ?_
        go_wp2_with fail
        go_ret2
        refine ⟨?_, (Hf.out.tr Hf2.out).drew⟩
        unfold searchV
        rw [Hpos.out, Hhas.out]
        rfl
end Go.Proofs.Ytdmghildjadjeaa
