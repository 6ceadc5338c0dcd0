/- The helpers of chapter 17's laws (2). -/
import Derived.Test.YtjfjpibjjliagaaFlowHelp
namespace Go.Proofs.Ytjfjpibjjliagaa
open Go.RowKit Go.BigFrame
set_option linter.unusedSimpArgs false
set_option linter.unusedVariables false
attribute [local irreducible] wpMix wpAnyG

def SomeBool (w : World) (e : Ending) (w' : World) : Prop := ∃ b : Bool, e = .returned (.bool b) ∧ Fr noB w w'
abbrev Acts (w : World) (s : SlV) (xs : List ActM) : Prop := SlOf w 16 ActM.cells ActM.wf s xs
def LongAt (w0 : World) (n : Nat) (i : Value) (wr : World) : Prop := ∃ k : Nat, k ≤ n ∧ i = .int .i64 k ∧ Fr noB w0 wr

set_option maxHeartbeats 1000000 in
theorem law_long (s : SlV) (xs : List ActM) (w : World) (hs : Acts w s xs) : Calls Try.prog 16 #[.slice s.a s.len s.cap] w (SomeBool w) := by
  obtain ⟨a, len, cap⟩ := s
  have hl : len = xs.length := hs.1
  have hm : len ≤ maxLen := hs.2.1
  unfold maxLen at hm
  have Hs := hide hs; have Hl := hide hl
  clear hs hl
  go_enter Try.func16, Try.ntmps16
  go_wp2_with fail
  go_loopw [3] (LongAt w xs.length) (fun i _ => len - (intOf i).toNat)
  case atStart => exact ⟨0, Nat.zero_le _, rfl, Fr.refl _ _⟩
  case round =>
    obtain ⟨k, hk, rfl, hf⟩ := hrel
    have Hf := hide hf
    clear hf
    by_cases hgo : k < len ∧ k < 100
    · obtain ⟨hlt, h100⟩ := hgo
      have hk2 : k < xs.length := by have := Hl.out; omega
      have hx : xs[k]? = some xs[k] := List.getElem?_eq_getElem hk2
      obtain ⟨b, o, rfl, hb, hc, hwf⟩ := SlOf.at (SlOf.fr Hs.out Hf.out (fun _ _ h => h) (fun _ h => h)) hx
      generalize xs[k] = x at *
      have hmul : ((k : Int) * 16).toNat = k * 16 := by omega
      have h1 : x.f.routeTo.iface.size ≤ maxLen := hwf.2.1.2.2.2.1.1
      have h2 : x.f.replyTo.iface.size ≤ maxLen := hwf.2.1.2.2.2.2.1.1
      have c1 : ∀ z : Grow wr, z.v.cell? ⟨b, o + k * 16 + 9, none⟩ = some (.string x.f.routeTo.iface) := fun z => (hc.fr z.fr (fun h => h)) 9 _ rfl
      have c2 : ∀ z : Grow wr, z.v.cell? ⟨b, o + k * 16 + 12, none⟩ = some (.string x.f.replyTo.iface) := fun z => (hc.fr z.fr (fun h => h)) 12 _ rfl
      clear hx hc hwf
      go_upto_region 4 with (fail)
      refine wp_region_mix (fun W => ∃ z : Grow wr, W = z.v) (by kernel_rfl) (by kernel_rfl) ⟨⟨_, (Fr.refl _ _).drew⟩, rfl⟩ ?_
      repeat (first | (refine wpMix_skip rfl ?_; simp only [Act.put, List.setIfInBounds_toArray, List.set_cons_succ, List.set_cons_zero]) | (refine wpMix_calm rfl rfl (fun K hK => ?_); go_big_quiet_op; refine hK _ ?_; clear hK K))
      refine wpMix_nil ?_
      clear c1 c2 h1 h2
      go_wp2_with fail
      · go_ret
        exact ⟨_, rfl, Hf.out.drew⟩
      · go_roundw
        case rel => exact ⟨k + 1, by have := Hl.out; omega, by go_num, Hf.out.drew⟩
        case measure => simp [intOf]; omega
    · have hstop : (k < len ∧ ¬ k < 100) ∨ ¬ k < len := by omega
      clear hgo
      rcases hstop with ⟨h1, h2⟩ | h1
      all_goals
        go_wp2_with fail
        go_ret
        exact ⟨_, rfl, Hf.out⟩

def knownK : KeyM := ⟨6, 1, 2, 3, 4⟩
def knownF : FlowM := { zeroF with key := knownK, state := 1 }
theorem known_add : addF 2 [] knownF = ⟨0, [knownF]⟩ := by
  unfold addF findF; rfl
theorem known_find : findF [knownF] ⟨6, 2, 1, 4, 3⟩ = ⟨knownF, true, true⟩ := by
  unfold findF
  have e1 : [knownF].findIdx? (fun f => decide (f.key = (⟨6, 2, 1, 4, 3⟩ : KeyM))) = none := by decide
  have e2 : [knownF].findIdx? (fun f => decide (f.key = turnK ⟨6, 2, 1, 4, 3⟩)) = some 0 := by decide
  rw [e1]; simp only; rw [e2]; rfl
theorem knownF_wf : knownF.wf := by simp [knownF, zeroF, knownK, FlowM.wf, KeyM.wf, PinM.wf, i64b, maxLen, ByteArray.size]

set_option maxRecDepth 100000 in
set_option maxHeartbeats 1000000 in
theorem law_known (w : World) : Calls Try.prog 13 #[] w fun e w' => e = .returned (.bool true) ∧ Fr noB w w' := by
  go_enter Try.func13, Try.ntmps13
  go_wp2_with fail
  refine (flows_new 2 _).mono ?_
  rintro e w1 ⟨rfl, ht, hf⟩
  have Ht := hide ht; have Hf := hide hf
  clear ht hf
  go_upto_region 5 with (first | (refine wpList_build_as rfl 25 _ rfl knownK.cells.toArray (by kernel_rfl) ?_) | (refine wpList_store_new rfl 25 _ _ rfl _ _ knownK.cells _ rfl rfl (by simp) (by kernel_rfl) rfl (by kernel_rfl) ?_))
  simp only [Act.put, List.setIfInBounds_toArray, List.set_cons_succ, List.set_cons_zero]
  refine wp_gen (fun W => CellsAt W w1.heap.size 0 knownK.cells ∧ Fr noB w1 W) ⟨by (repeat (first | assumption | exact cells_new _ _ _ (by simp) | refine CellsAt.alloc ?_ _ | refine CellsAt.drew ?_ | refine CellsAt.drewN ?_ _)), (Fr.refl _ _).alloc _⟩ ?_
  rintro w2 ⟨hck, hf2⟩
  have Hf2 := hide hf2
  go_wp2_with (first | (refine wpList_load_at rfl 25 _ rfl _ _ rfl (KeyM.cells _) (by (repeat (first | assumption | exact cells_new _ _ _ (by simp) | refine CellsAt.alloc ?_ _ | refine CellsAt.drew ?_ | refine CellsAt.drewN ?_ _))) _ Try.underlying25 rfl (by kernel_rfl) ?_) | (refine wpList_build_as rfl 29 _ rfl knownF.cells.toArray (by kernel_rfl) ?_))
  refine (flows_add _ _ _ [] (capF 2) (Ht.out.frN hf2) knownF knownF_wf).mono ?_
  rw [show addF (capF 2) [] knownF = ⟨0, [knownF]⟩ from known_add]
  rintro e w3 ⟨rfl, ht3, hf3⟩
  have Ht3 := hide ht3
  have Hf3 := hide (show Fr noB w w3 from Fr.trans (Hf.out.tr hf2) hf3 (fun _ _ h => h) (fun b hb h => by have := h.1; omega))
  clear hck hf2 ht3 hf3
  go_wp2_with (refine wpList_build_as rfl 25 _ rfl (KeyM.cells ⟨6, 2, 1, 4, 3⟩).toArray (by kernel_rfl) ?_)
  refine (flows_find _ _ _ [knownF] (capF 2) Ht3.out ⟨6, 2, 1, 4, 3⟩).mono ?_
  rintro e w4 ⟨rfl, hf4⟩
  rw [known_find]
  unfold foundV
  have Hf4 := hide (Hf3.out.tr hf4)
  clear hf4
  go_wp2_with (refine wpList_store_new rfl 29 _ _ rfl _ _ knownF.cells _ rfl rfl (by simp) (by kernel_rfl) rfl (by kernel_rfl) ?_)
  go_ret
  exact ⟨rfl, Hf4.out.alloc _⟩
end Go.Proofs.Ytjfjpibjjliagaa
