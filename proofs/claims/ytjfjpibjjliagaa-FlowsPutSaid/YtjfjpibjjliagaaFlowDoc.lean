/- The document's answer to chapter 17: New, at, Find. -/
import Derived.Test.YtjfjpibjjliagaaFlowPut
namespace Go.Proofs.Ytjfjpibjjliagaa
open Go.RowKit Go.BigFrame
set_option linter.unusedSimpArgs false
set_option linter.unusedVariables false
attribute [local irreducible] wpMix

theorem Doc.same {w w' : World} {F : Nat → Prop} {g : Nat} {fl : List FlowM} {most : Int} (h : Doc w F g fl most) (hw : Fr noB w w') : Doc w' (gr F w w') g fl most ∧ Fr F w w' := by
  refine ⟨?_, hw.mono (fun _ _ h => h.elim)⟩
  obtain ⟨⟨s, h1, h2, h5⟩, h6, h7, h9, h10, h11, h12⟩ := h.frN hw
  exact ⟨⟨s, h1, h2, fun b hb => .inl (h5 b hb)⟩, .inl h6, fun b hb => by rcases hb with hb | hb; exact h7 b hb; exact hb.2, h9, h10, h11, h12⟩
def DocNewTo (w : World) (g : Nat) (most : Int) (e : Ending) (w' : World) : Prop := e = .returned (.pointer (some ⟨g, 0, none⟩)) ∧ Doc w' (newB w w') g [] most ∧ Fr noB w w'
set_option maxHeartbeats 400000 in
theorem doc_new (most : Int) (w : World) : Calls Try.prog 17 #[.int .i64 most] w (DocNewTo w w.heap.size (capF most)) := by
  have hmx := run_max_int Try.prog
  have hmn := run_min_int Try.prog
  go_enter Try.func17, Try.ntmps17
  go_wp2_with fail
  go_ret
  refine ⟨rfl, ⟨⟨⟨none, 0, 0⟩, Blk.alloc_new w #[.slice none 0 0, .int .i64 (capF most)] 54, OwnL.nil _ _ _ _, ?_⟩, ?_, ?_, ?_, ?_, ?_, ?_⟩, (Fr.refl _ _).alloc _⟩
  · rintro b ⟨a, ha, _⟩; simp at ha
  · exact ⟨by omega, by simp⟩
  · intro b hb; exact hb.2
  · have := capF_bd most; simp; omega
  · exact (capF_bd most).1
  · exact (capF_bd most).2
  · simp

def docIdx (fl : List FlowM) (k : KeyM) : Int := match fl.findIdx? (fun f => decide (f.key = k)) with | some i => (i : Int) | none => -1
def IdxAt17 (fl : List FlowM) (k : KeyM) (w0 : World) (i : Value) (wr : World) : Prop := ∃ m : Nat, m ≤ fl.length ∧ i = .int .i64 m ∧ (∀ (j : Nat) (f : FlowM), j < m → fl[j]? = some f → f.key ≠ k) ∧ Fr noB w0 wr

set_option maxHeartbeats 1000000 in
theorem doc_at (w : World) (F : Nat → Prop) (g : Nat) (fl : List FlowM) (most : Int) (h : Doc w F g fl most) (k : KeyM) :
    Calls Try.prog 27 #[.pointer (some ⟨g, 0, none⟩), .agg k.cells.toArray] w fun e w' => e = .returned (.int .i64 (docIdx fl k)) ∧ Fr noB w w' := by
  have H := hide h
  have hlen : fl.length ≤ 64 := by have := h.len; have := h.most64; omega
  clear h
  go_enter Try.func27, Try.ntmps27
  go_upto_region 1 with (fail)
  refine wp_gen (fun W => CellsAt W w.heap.size 0 k.cells ∧ Fr noB w W) ⟨by (repeat (first | assumption | exact cells_new _ _ _ (by simp) | refine CellsAt.alloc ?_ _ | refine CellsAt.drew ?_ | refine CellsAt.drewN ?_ _)), (Fr.refl _ _).alloc _⟩ ?_
  rintro w1 ⟨hck, hf⟩
  have Hck := hide hck; have Hf := hide hf
  clear hck hf
  go_wp2_with fail
  go_loopw [5] (IdxAt17 fl k w1) (fun i _ => fl.length - (intOf i).toNat)
  case atStart => exact ⟨0, Nat.zero_le _, rfl, fun j f hj => by omega, Fr.refl _ _⟩
  case round =>
    obtain ⟨m, hm, rfl, hno, hf1⟩ := hrel
    have Hno := hide hno; have Hf1 := hide hf1
    clear hno hf1
    obtain ⟨⟨⟨sa, sl, sc⟩, hblk, hown, hF2⟩, _⟩ := H.out.frN (Hf.out.tr Hf1.out)
    have hsl : sl = fl.length := hown.1
    have c0 : wr.cell? ⟨g, 0, none⟩ = some (.slice sa sl sc) := hblk.cell 0
    have hg0 : ∀ z : Grow wr, z.v.cell? ⟨g, 0, none⟩ = some (.slice sa sl sc) := fun z => (hblk.fr z.fr (fun h => h)).cell 0
    have hmax : sl ≤ 64 := by rw [hsl]; exact hlen
    have hck1 : CellsAt wr w.heap.size 0 k.cells := Hck.out.fr Hf1.out (fun h => h)
    have Hsl := hide hsl
    clear hsl hblk
    by_cases hlt : m < sl
    · have hm2 : m < fl.length := by have := Hsl.out; omega
      have hx : fl[m]? = some fl[m] := List.getElem?_eq_getElem hm2
      obtain ⟨gs, rfl, _, hcx, _⟩ := own_at hown FlowM.length hx
      generalize fl[m] = f at *
      have Hx := hide hx
      have hckf := key_of_flow hcx
      have hmul : ((m : Int) * 14).toNat = m * 14 := by omega
      clear hx hm hown hcx
      go_upto_region 4 with (fail)
      refine wp_region_mix (fun W => ∃ z : Grow wr, W = z.v) (by kernel_rfl) (by kernel_rfl) (inGrow (Fr.refl _ _).drew) ?_
      iterate 7 (first | (refine wpMix_skip rfl ?_; simp only [Act.put, List.setIfInBounds_toArray, List.set_cons_succ, List.set_cons_zero]) | (refine wpMix_calm rfl rfl (fun K hK => ?_); go_big_quiet_op; refine hK _ ?_; clear hK K))
      (refine wpMix_load_atw rfl 25 (.tmp 21) rfl _ _ rfl (KeyM.cells _) (fun W hW => by obtain ⟨z, rfl⟩ := hW; exact CellsAt.fr (by (repeat (first | assumption | exact cells_new _ _ _ (by simp) | refine CellsAt.alloc ?_ _ | refine CellsAt.drew ?_ | refine CellsAt.drewN ?_ _))) z.fr (fun h => h)) _ Try.underlying25 rfl (by kernel_rfl) ?_; simp only [Act.put, List.setIfInBounds_toArray, List.set_cons_succ, List.set_cons_zero])
      (refine wpMix_load_atw rfl 25 (.tmp 3) rfl _ _ rfl (KeyM.cells _) (fun W hW => by obtain ⟨z, rfl⟩ := hW; exact CellsAt.fr (by (repeat (first | assumption | exact cells_new _ _ _ (by simp) | refine CellsAt.alloc ?_ _ | refine CellsAt.drew ?_ | refine CellsAt.drewN ?_ _))) z.fr (fun h => h)) _ Try.underlying25 rfl (by kernel_rfl) ?_; simp only [Act.put, List.setIfInBounds_toArray, List.set_cons_succ, List.set_cons_zero])
      cases hb : decide (f.key = k) with
      | true =>
        refine wpMix_eqs rfl false 25 (.tmp 22) (.tmp 23) rfl f.key.cells.toArray k.cells.toArray rfl rfl true (by kernel_rfl) (fun w => by rw [key_equal, hb]) ?_
        simp only [Act.put, List.setIfInBounds_toArray, List.set_cons_succ, List.set_cons_zero]
        refine wpMix_nil ?_
        have hfk : docIdx fl k = (m : Int) := by
          have : fl.findIdx? (fun f => decide (f.key = k)) = some m := by
            obtain ⟨hl, he⟩ := List.getElem?_eq_some_iff.1 Hx.out
            rw [List.findIdx?_eq_some_iff_getElem]
            refine ⟨hl, by rw [he]; exact hb, fun j hj => ?_⟩
            have := Hno.out j (fl[j]'(by omega)) hj (List.getElem?_eq_getElem _)
            simpa using this
          unfold docIdx; rw [this]
        have Hfk := hide hfk
        clear hfk hb c0 hg0 hck1 hckf
        go_wp2_with fail
        go_ret
        exact ⟨ret_int Hfk.out.symm, (Hf.out.tr Hf1.out).drew⟩
      | false =>
        refine wpMix_eqs rfl false 25 (.tmp 22) (.tmp 23) rfl f.key.cells.toArray k.cells.toArray rfl rfl false (by kernel_rfl) (fun w => by rw [key_equal, hb]) ?_
        simp only [Act.put, List.setIfInBounds_toArray, List.set_cons_succ, List.set_cons_zero]
        refine wpMix_nil ?_
        have Hb := hide (of_decide_eq_false hb)
        clear hb c0 hg0 hck1 hckf
        go_wp2_with fail
        go_roundw
        case rel =>
          refine ⟨m + 1, by omega, by go_num, fun j x hj hx => ?_, Hf1.out.drew⟩
          by_cases e : j = m
          · subst e
            rw [Hx.out] at hx
            obtain rfl := Option.some.inj hx
            exact Hb.out
          · exact Hno.out j x (by omega) hx
        case measure => simp [intOf]; omega
    · have hfk : docIdx fl k = -1 := by
        have : fl.findIdx? (fun f => decide (f.key = k)) = none := by
          rw [List.findIdx?_eq_none_iff]
          intro x hx
          obtain ⟨j, hj⟩ := List.getElem?_of_mem hx
          have := Hno.out j x (by have := (List.getElem?_eq_some_iff.1 hj).1; have := Hsl.out; omega) hj
          simpa using this
        unfold docIdx; rw [this]
      have Hfk := hide hfk
      clear hfk hg0
      go_wp2_with fail
      go_ret
      exact ⟨ret_int Hfk.out.symm, Hf.out.tr Hf1.out⟩
end Go.Proofs.Ytjfjpibjjliagaa
