/- The helpers of chapter 11's laws: known, played. -/
import Derived.Test.YtdmghildjadjeaaRibHelp
namespace Go.Proofs.Ytdmghildjadjeaa
open Go.RowKit Go.BigFrame
set_option linter.unusedSimpArgs false
set_option linter.unusedVariables false
attribute [local irreducible] wpMix wpAnyG

def kn0 : RouteM := ⟨0, ⟨0, 0⟩, 0, 0, 5⟩
def kn1 : RouteM := ⟨0, ⟨0, 0⟩, 1, 0, 3⟩
theorem kn0_wf : kn0.wf := by unfold RouteM.wf PrefixM.wf i64b kn0; simp
theorem kn1_wf : kn1.wf := by unfold RouteM.wf PrefixM.wf i64b kn1; simp
theorem kn_add0 : (addR [] kn0).l = [kn0] := by decide
theorem kn_add1 : (addR [kn0] kn1).l = [kn0, kn1] := by decide
theorem kn_best : toBest (findP (activeL [kn0, kn1] 0 [true, true]) ⟨0, 0⟩) = ⟨kn1, true⟩ := by
  have : findP (activeL [kn0, kn1] 0 [true, true]) ⟨0, 0⟩ = some kn1 := by decide
  rw [this]; rfl

set_option maxRecDepth 100000 in
set_option maxHeartbeats 2000000 in
theorem law_known (w : World) : Calls Try.prog 13 #[] w fun e w' => e = .returned (.bool true) ∧ Fr noB w w' := by
  go_enter Try.func13, Try.ntmps13
  go_wp2_with fail
  refine (rib_new _).mono ?_
  rintro e w1 ⟨rfl, hr, hf1⟩
  have Hr := hide hr; have Hf1 := hide hf1
  clear hr hf1
  go_wp2_with fail
  refine (rib_add w1 _ _ [] Hr.out kn0 kn0_wf).mono ?_
  rintro e w2 ⟨rfl, hr2, hf2⟩
  rw [kn_add0] at hr2
  have Hr2 := hide hr2; have Hf2 := hide (show Fr noB w w2 from Fr.trans Hf1.out hf2 (fun _ _ h => h) (fun b hb h => by have := h.1; omega))
  clear hr2 hf2
  go_wp2_with fail
  refine (rib_add w2 _ _ [kn0] Hr2.out kn1 kn1_wf).mono ?_
  rintro e w3 ⟨rfl, hr3, hf3⟩
  rw [kn_add1] at hr3
  have Hr3 := hide hr3; have Hf3 := hide (show Fr noB w w3 from Fr.trans Hf2.out hf3 (fun _ _ h => h) (fun b hb h => by rcases h with h | h; have := h.1; omega; have := h.1; have := Hf1.out.size; omega))
  clear hr3 hf3
  go_wp2_with (refine wpList_buildSlice rfl 39 2 _ rfl #[(0, .bool true), (1, .bool true)] (by kernel_rfl) Try.underlying39 (.bool false) 1 (by kernel_rfl) #[.bool true, .bool true] (by decide) (by decide) (by kernel_rfl) ?_)
  have hups : Ups (w3.alloc (.cells #[.bool true, .bool true] 4)) ⟨some ⟨w3.heap.size, 0, none⟩, 2, 2⟩ [true, true] :=
    slof_blk (ok := fun _ => True) (xs := [true, true]) (junk := []) (cells := bcells) (fun _ => rfl) (Blk.alloc_new w3 #[.bool true, .bool true] 4) (fun _ _ => trivial) 2 (by simp [maxLen])
  refine (rib_best _ _ _ [kn0, kn1] (Hr3.out.frN ((Fr.refl _ _).alloc _)) 0 ⟨0, 0⟩ ⟨some ⟨w3.heap.size, 0, none⟩, 2, 2⟩ [true, true] hups).mono ?_
  rintro e w4 ⟨rfl, hf4⟩
  rw [kn_best]
  unfold bestV
  have Hf4 := hide ((Hf3.out.alloc _).tr hf4)
  clear hf4 hups
  go_upto_region 7 with (refine wpList_store_new rfl 26 _ _ rfl _ _ kn1.cells _ rfl rfl (by simp) (by kernel_rfl) rfl (by kernel_rfl) ?_)
  refine wp_gen (fun W => CellsAt W w4.heap.size 0 kn1.cells ∧ Fr noB w4 W) ⟨cells_new _ _ _ rfl, (Fr.refl _ _).alloc _⟩ ?_
  rintro w5 ⟨hc5, hf5⟩
  have Hf5 := hide (Hf4.out.tr hf5)
  have c3 : w5.cell? ⟨w4.heap.size, 3, none⟩ = some (.int .i64 1) := by have h := (route_now hc5).2.2.2.1; rw [Nat.zero_add] at h; exact h
  clear hc5 hf5
  go_wp2_with fail
  go_ret
  exact ⟨rfl, Hf5.out⟩

/-! ### A script played in both -/
def BothR (wb w : World) (l : List RouteM) (g gx : Nat) : Prop := Fr noB wb w ∧ ∃ F G : Nat → Prop, Rib w F g l ∧ Doc w G gx l ∧ (∀ b, F b → ¬ G b) ∧ (∀ b, F b → wb.heap.size ≤ b) ∧ (∀ b, G b → wb.heap.size ≤ b)
theorem BothR.fr {wb w w' : World} {l : List RouteM} {g gx : Nat} (h : BothR wb w l g gx) (f : Fr noB w w') : BothR wb w' l g gx := by
  obtain ⟨h0, F, G, h1, h2, h3⟩ := h
  exact ⟨h0.tr f, F, G, h1.frN f, h2.frN f, h3⟩
abbrev Acts (w : World) (s : SlV) (xs : List ActM) : Prop := SlOf w 7 ActM.cells ActM.wf s xs
/-- Both tables behind a change of both. -/
theorem both_step {wb w w1 w2 : World} {F G : Nat → Prop} {g gx : Nat} {l' : List RouteM} (h0 : Fr noB wb w) {l0 : List RouteM} (hG : Doc w G gx l0) (hF1 : ∀ b, F b → ¬ G b) (hF2 : ∀ b, F b → wb.heap.size ≤ b) (hF3 : ∀ b, G b → wb.heap.size ≤ b)
    (hr : Rib w1 (gr F w w1) g l') (hf1 : Fr F w w1) (hd : Doc w2 (gr G w1 w2) gx l') (hf2 : Fr G w1 w2) : BothR wb w2 l' g gx := by
  have s0 := h0.size; have s1 := hf1.size
  have hnot : ∀ b, gr F w w1 b → ¬ G b := fun b hb hg => by
    rcases hb with hb | hb
    · exact hF1 b hb hg
    · have := hG.lt b hg; omega
  refine ⟨Fr.trans (Fr.trans h0 hf1 (fun _ _ h => h) (fun b hb h => by have := hF2 b h; omega)) hf2 (fun _ _ h => h) (fun b hb h => by have := hF3 b h; omega), gr F w w1, gr G w1 w2, hr.fr hf2 hnot, hd, fun b hb hg => ?_, fun b hb => ?_, fun b hb => ?_⟩
  · rcases hg with hg | hg
    · exact hnot b hb hg
    · have := hr.lt b hb; omega
  · rcases hb with hb | hb
    · exact hF2 b hb
    · omega
  · rcases hb with hb | hb
    · exact hF3 b hb
    · have := hb.1; omega
def PlayAt (wb : World) (n g gx : Nat) (i : Value) (wr : World) : Prop := ∃ (k : Nat) (l : List RouteM), k ≤ n ∧ i = .int .i64 k ∧ BothR wb wr l g gx
def PlayedTo (w : World) (e : Ending) (w' : World) : Prop := ∃ (l : List RouteM) (g gx : Nat), e = .returned (.tuple #[.pointer (some ⟨g, 0, none⟩), .pointer (some ⟨gx, 0, none⟩), .bool true]) ∧ BothR w w' l g gx
end Go.Proofs.Ytdmghildjadjeaa
