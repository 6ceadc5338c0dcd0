/- The helper prefixes of chapter 9's laws. -/
import Derived.Test.YtgjabgneapdbiaaTrieDocDel
namespace Go.Proofs.Ytgjabgneapdbiaa
open Go.RowKit Go.BigFrame
set_option linter.unusedSimpArgs false
set_option linter.unusedVariables false
attribute [local irreducible] wpMix wpAnyG

abbrev Pfxs (w : World) (s : SlV) (xs : List PrefixM) : Prop := SlOf w 2 PrefixM.cells (fun _ => True) s xs
def PfxsAt (w0 : World) (xs ys : List PrefixM) (i : Value) (wr : World) : Prop := ∃ k : Nat, k ≤ xs.length ∧ i = .int .i64 k ∧ (∀ j, j < k → xs[j]? = ys[j]?) ∧ Fr noB w0 wr

set_option maxHeartbeats 1000000 in
theorem law_prefixes (s : SlV) (xs : List PrefixM) (t : SlV) (ys : List PrefixM) (w : World) (hs : Pfxs w s xs) (ht : Pfxs w t ys) :
    Calls Try.prog 28 #[.slice s.a s.len s.cap, .slice t.a t.len t.cap] w fun e w' => e = .returned (.bool (decide (xs = ys))) ∧ Fr noB w w' := by
  obtain ⟨a, len, cap⟩ := s
  obtain ⟨a2, len2, cap2⟩ := t
  have hl : len = xs.length := hs.1
  have hm : len ≤ maxLen := hs.2.1
  have hl2 : len2 = ys.length := ht.1
  have hm2 : len2 ≤ maxLen := ht.2.1
  unfold maxLen at hm hm2
  have Hs := hide hs; have Ht := hide ht; have Hl := hide hl; have Hl2 := hide hl2
  clear hs ht hl hl2
  by_cases hne : len = len2
  · subst hne
    go_enter Try.func28, Try.ntmps28
    go_wp2_with fail
    go_loopw [5] (PfxsAt w xs ys) (fun i _ => len - (intOf i).toNat)
    case atStart => exact ⟨0, Nat.zero_le _, rfl, fun j hj => by omega, Fr.refl _ _⟩
    case round =>
      obtain ⟨k, hk, rfl, he, hf⟩ := hrel
      have He := hide he; have Hf := hide hf
      clear he hf
      by_cases hlt : k < len
      · have hx : xs[k]? = some (xs[k]'(by have := Hl.out; omega)) := List.getElem?_eq_getElem _
        have hy : ys[k]? = some (ys[k]'(by have := Hl2.out; omega)) := List.getElem?_eq_getElem _
        obtain ⟨b, o, rfl, hb, hc, _⟩ := SlOf.at (SlOf.fr Hs.out Hf.out (fun _ _ h => h) (fun _ h => h)) hx
        obtain ⟨b2, o2, rfl, hb2, hc2, _⟩ := SlOf.at (SlOf.fr Ht.out Hf.out (fun _ _ h => h) (fun _ h => h)) hy
        generalize xs[k] = x at *
        generalize ys[k] = y at *
        have Hx := hide hx; have Hy := hide hy
        have hmul : ((k : Int) * 2).toNat = k * 2 := by omega
        clear hx hy hk
        go_upto_region 6 with (fail)
        refine wp_region_mix (fun W => ∃ z : Grow wr, W = z.v) (by kernel_rfl) (by kernel_rfl) (inGrow (Fr.refl _ _).drew) ?_
        iterate 3 (first | (refine wpMix_skip rfl ?_; simp only [Act.put, List.setIfInBounds_toArray, List.set_cons_succ, List.set_cons_zero]) | (refine wpMix_calm rfl rfl (fun K hK => ?_); go_big_quiet_op; refine hK _ ?_; clear hK K))
        refine wpMix_load_atw rfl 28 (.tmp 19) rfl b (o + k * 2) (by go_simp) x.cells (fun W hW => by obtain ⟨z, rfl⟩ := hW; exact hc.fr z.fr (fun h => h)) _ Try.underlying28 rfl (by kernel_rfl) ?_
        simp only [Act.put, List.setIfInBounds_toArray, List.set_cons_succ, List.set_cons_zero]
        iterate 3 (first | (refine wpMix_skip rfl ?_; simp only [Act.put, List.setIfInBounds_toArray, List.set_cons_succ, List.set_cons_zero]) | (refine wpMix_calm rfl rfl (fun K hK => ?_); go_big_quiet_op; refine hK _ ?_; clear hK K))
        refine wpMix_load_atw rfl 28 (.tmp 23) rfl b2 (o2 + k * 2) (by go_simp) y.cells (fun W hW => by obtain ⟨z, rfl⟩ := hW; exact hc2.fr z.fr (fun h => h)) _ Try.underlying28 rfl (by kernel_rfl) ?_
        simp only [Act.put, List.setIfInBounds_toArray, List.set_cons_succ, List.set_cons_zero]
        cases hd : decide (x = y) with
        | true =>
          refine wpMix_eqs rfl true 28 (.tmp 20) (.tmp 24) rfl x.cells.toArray y.cells.toArray rfl rfl true (by kernel_rfl) (fun w => by rw [prefix_equal, hd]) ?_
          simp only [Act.put, List.setIfInBounds_toArray, List.set_cons_succ, List.set_cons_zero]
          refine wpMix_nil ?_
          have Hxy := hide (of_decide_eq_true hd)
          clear hd hc hc2
          go_wp2_with fail
          go_roundw
          case rel =>
            refine ⟨k + 1, by have := Hl.out; omega, by go_num, fun j hj => ?_, Hf.out.drew⟩
            by_cases e : j = k
            · subst e; rw [Hx.out, Hy.out, Hxy.out]
            · exact He.out j (by omega)
          case measure => simp [intOf]; omega
        | false =>
          refine wpMix_eqs rfl true 28 (.tmp 20) (.tmp 24) rfl x.cells.toArray y.cells.toArray rfl rfl false (by kernel_rfl) (fun w => by rw [prefix_equal, hd]) ?_
          simp only [Act.put, List.setIfInBounds_toArray, List.set_cons_succ, List.set_cons_zero]
          refine wpMix_nil ?_
          have Hd := hide (show decide (xs = ys) = false from by
            apply decide_eq_false
            intro e
            subst e
            have := Hx.out.symm.trans Hy.out
            exact (of_decide_eq_false hd) (Option.some.inj this))
          clear hd hc hc2
          go_wp2_with fail
          go_ret
          exact ⟨ret_bool Hd.out.symm, Hf.out.drew⟩
      · have Hd := hide (show decide (xs = ys) = true from by
          apply decide_eq_true
          apply List.ext_getElem?
          intro j
          by_cases hj : j < k
          · exact He.out j hj
          · rw [List.getElem?_eq_none (by have := Hl.out; omega), List.getElem?_eq_none (by have := Hl2.out; omega)])
        go_wp2_with fail
        go_ret
        exact ⟨ret_bool Hd.out.symm, Hf.out⟩
  · have Hd := hide (show decide (xs = ys) = false from by
      apply decide_eq_false
      intro e
      subst e
      exact hne (Hl.out.trans Hl2.out.symm))
    have hne' : ¬ (len : Int) = (len2 : Int) := by omega
    go_enter Try.func28, Try.ntmps28
    go_wp2_with fail
    go_ret
    exact ⟨ret_bool Hd.out.symm, Fr.refl _ _⟩
end Go.Proofs.Ytgjabgneapdbiaa
