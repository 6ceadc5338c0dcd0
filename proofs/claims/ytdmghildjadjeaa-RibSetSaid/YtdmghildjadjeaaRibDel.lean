/- slices.Delete of one route from a slice of the call's own. -/
import Derived.Test.YtdmghildjadjeaaRibIns
namespace Go.Proofs.Ytdmghildjadjeaa
open Go.RowKit Go.BigFrame
set_option linter.unusedSimpArgs false
set_option linter.unusedVariables false
attribute [local irreducible] wpMix wpAnyG

def delL (l : List RouteM) (i : Nat) : List RouteM := l.take i ++ l.drop (i + 1)

set_option maxHeartbeats 1000000 in
theorem del_blk (w : World) (g m c i : Nat) (l : List RouteM) (junk : List Value) (hb : Blk w g (l.flatMap RouteM.cells ++ junk).toArray 26) (hjl : (l.flatMap RouteM.cells ++ junk).length = c * 6) (hn : m + 1 = l.length) (hi : i ≤ m) (hlen : m < 256) (hnc : m + 1 ≤ c) (hcm : c ≤ maxLen) :
    Calls Try.prog 40 #[.slice (some ⟨g, 0, none⟩) (m + 1) c, .int .i64 i, .int .i64 ((i : Int) + 1)] w (SlTo w ⟨some ⟨g, 0, none⟩, m + 1, c⟩ (delL l i)) := by
  have Hb := hide hb; have Hjl := hide hjl; have Hn := hide hn
  have hjl2 : junk.length = (c - (m + 1)) * 6 := by rw [List.length_append, flat_length RouteM.length, ← hn] at hjl; omega
  have Hjl2 := hide hjl2
  unfold maxLen at hcm
  clear hb hjl hn hjl2
  have hm1 : ((i : Int) * 6).toNat = i * 6 := by omega
  have hm2 : (((i : Int) + 1) * 6).toNat = (i + 1) * 6 := by omega
  have hm3 : ((m : Int) * 6).toNat = m * 6 := by omega
  have hlen1 : ((l.drop (i + 1)).flatMap RouteM.cells).length = (m - i) * 6 := by rw [flat_length RouteM.length, List.length_drop]; have := Hn.out; omega
  have hdl : (delL l i).length = m := by unfold delL; rw [List.length_append, List.length_take, List.length_drop]; have := Hn.out; omega
  have Hdl := hide hdl
  have e1 : (l.flatMap RouteM.cells ++ junk).take (i * 6) ++ (l.drop (i + 1)).flatMap RouteM.cells ++ (l.flatMap RouteM.cells ++ junk).drop (i * 6 + ((l.drop (i + 1)).flatMap RouteM.cells).length) = (delL l i).flatMap RouteM.cells ++ ((l.drop m).flatMap RouteM.cells ++ junk) := by
    rw [hlen1, show i * 6 + (m - i) * 6 = m * 6 by omega, flat_take RouteM.length l junk i (by have := Hn.out; omega), flat_drop RouteM.length l junk m (by have := Hn.out; omega)]
    unfold delL
    rw [List.flatMap_append]
  have HE1 := hide e1; have Hlen1 := hide hlen1
  clear e1 hlen1 hdl
  have e2 : ((delL l i).flatMap RouteM.cells ++ ((l.drop m).flatMap RouteM.cells ++ junk)).take (m * 6) ++ zeroR.cells ++ ((delL l i).flatMap RouteM.cells ++ ((l.drop m).flatMap RouteM.cells ++ junk)).drop (m * 6 + zeroR.cells.length) = (delL l i).flatMap RouteM.cells ++ (zeroR.cells ++ ((l.drop m).flatMap RouteM.cells ++ junk).drop 6) := by
    have h1 := flat_take RouteM.length (delL l i) ((l.drop m).flatMap RouteM.cells ++ junk) m (by rw [Hdl.out]; exact Nat.le_refl _)
    have h2 := flat_drop2 RouteM.length (delL l i) ((l.drop m).flatMap RouteM.cells ++ junk) 1
    rw [Hdl.out] at h2
    rw [h1, RouteM.length, show m * 6 + 6 = (m + 1) * 6 by omega, h2, List.take_of_length_le (by rw [Hdl.out]; exact Nat.le_refl _), List.append_assoc]
  have HE2 := hide e2
  clear e2
  by_cases hc : c = i + 1
  · obtain rfl : i = m := by omega
    subst hc
    have hnil : CellsAt w.drew g 0 ((l.drop (i + 1)).flatMap RouteM.cells) := by
      have : (l.drop (i + 1)).flatMap RouteM.cells = [] := List.eq_nil_of_length_eq_zero (by rw [Hlen1.out, Nat.sub_self, Nat.zero_mul])
      rw [this]; intro j v hj; simp at hj
    go_enter Try.func40, Try.ntmps40
    go_upto_region 5 with (fail)
    refine wp_region_mix2 6 (fun W => ∃ z : Grow w, W = z.v) (by kernel_rfl) (by kernel_rfl) (inGrow (Fr.refl _ _).drew) ?_
    simp only [List.take_succ_cons, List.take_zero, List.drop_succ_cons, List.drop_zero]
    repeat (first | (refine wpMix_skip rfl ?_; simp only [Act.put, List.setIfInBounds_toArray, List.set_cons_succ, List.set_cons_zero]) | (refine wpMix_calm rfl rfl (fun K hK => ?_); go_big_quiet_op; refine hK _ ?_; clear hK K))
    refine wpMix_nil ?_
    have hbd : Blk w.drew g (l.flatMap RouteM.cells ++ junk).toArray 26 := Hb.out
    refine wpList_append_roomN rfl (.tmp 22) (.tmp 25) 35 26 rfl Try.underlying35 6 (by kernel_rfl) g i (i + 1) rfl g 0 0 0 rfl _ hbd ((l.drop (i + 1)).flatMap RouteM.cells) (by rw [Hlen1.out, Nat.sub_self]) hnil (flat_mem RouteM.mem _) (by omega) (by rw [Hlen1.out, Hjl.out]; omega) ?_
    rw [HE1.out, Nat.add_zero]
    refine wpList_gen (fun W => Blk W g ((delL l i).flatMap RouteM.cells ++ ((l.drop i).flatMap RouteM.cells ++ junk)).toArray 26 ∧ Fr (oneB g) w W) ⟨hbd.setRow, (Fr.refl (oneB g) w).drew.setRow (.inr (show oneB g g from rfl)) _⟩ ?_
    rintro w1 ⟨hb1, hf1⟩
    have Hb1 := hide hb1; have Hf1 := hide hf1
    clear hb1 hf1 hbd
    simp only [Act.put, List.setIfInBounds_toArray, List.set_cons_succ, List.set_cons_zero]
    refine ⟨rfl, (fun W => ∃ z : Grow w1, W = z.v), inGrow (Fr.refl _ _), ?_⟩
    repeat (first | (refine wpMix_skip rfl ?_; simp only [Act.put, List.setIfInBounds_toArray, List.set_cons_succ, List.set_cons_zero]) | (refine wpMix_calm rfl rfl (fun K hK => ?_); go_big_quiet_op; refine hK _ ?_; clear hK K))
    refine wpMix_nil ?_
    go_wp2_with (refine wpList_clearN rfl (.tmp 31) 35 26 rfl g (i * 6) 1 1 rfl (.agg zeroR.cells.toArray) 6 Try.underlying35 (by kernel_rfl) (by decide) _ 26 Hb1.out zeroR.cells (by kernel_rfl) (by rw [List.length_append, List.length_append, flat_length RouteM.length, Hdl.out, flat_length RouteM.length, List.length_drop, RouteM.length]; have := Hn.out; omega) (RouteM.mem _) ?_; rw [HE2.out]; refine wpList_gen (fun W => Blk W g ((delL l i).flatMap RouteM.cells ++ (zeroR.cells ++ ((l.drop i).flatMap RouteM.cells ++ junk).drop 6)).toArray 26 ∧ Fr (oneB g) w1 W) ⟨Hb1.out.setRow, (Fr.refl (oneB g) w1).setRow (.inr (show oneB g g from rfl)) _⟩ ?_; rintro w2 ⟨hb2, hf2⟩)
    go_ret
    refine ⟨⟨some ⟨g, 0, none⟩, i, (i + 1)⟩, rfl, ⟨Hdl.out.symm, .inr ⟨g, _, rfl, hb2, ?_, by simp only; omega, by unfold maxLen; simp only; omega⟩⟩, ?_, fun b hb => .inl hb⟩
    · rw [List.length_append, flat_length RouteM.length, Hdl.out, List.length_append, List.length_drop, List.length_append, flat_length RouteM.length, List.length_drop, RouteM.length, Hjl2.out]
      have := Hn.out
      show _ = (i + 1) * 6
      omega
    · exact (Hf1.out.tr hf2).mono (fun b _ hb => ⟨_, rfl, hb.symm⟩)
  · go_enter Try.func40, Try.ntmps40
    go_upto_region 5 with (fail)
    refine wp_region_mix2 6 (fun W => ∃ z : Grow w, W = z.v) (by kernel_rfl) (by kernel_rfl) (inGrow (Fr.refl _ _).drew) ?_
    simp only [List.take_succ_cons, List.take_zero, List.drop_succ_cons, List.drop_zero]
    repeat (first | (refine wpMix_skip rfl ?_; simp only [Act.put, List.setIfInBounds_toArray, List.set_cons_succ, List.set_cons_zero]) | (refine wpMix_calm rfl rfl (fun K hK => ?_); go_big_quiet_op; refine hK _ ?_; clear hK K))
    refine wpMix_nil ?_
    have hbd : Blk w.drew g (l.flatMap RouteM.cells ++ junk).toArray 26 := Hb.out
    refine wpList_append_roomN rfl (.tmp 22) (.tmp 25) 35 26 rfl Try.underlying35 6 (by kernel_rfl) g i c rfl g ((i + 1) * 6) (m - i) (c - (i + 1)) rfl _ hbd ((l.drop (i + 1)).flatMap RouteM.cells) Hlen1.out (blk_from RouteM.length hbd (i + 1) (by have := Hn.out; omega)) (flat_mem RouteM.mem _) (by omega) (by rw [Hlen1.out, Hjl.out]; omega) ?_
    rw [HE1.out, show i + (m - i) = m by omega]
    refine wpList_gen (fun W => Blk W g ((delL l i).flatMap RouteM.cells ++ ((l.drop m).flatMap RouteM.cells ++ junk)).toArray 26 ∧ Fr (oneB g) w W) ⟨hbd.setRow, (Fr.refl (oneB g) w).drew.setRow (.inr (show oneB g g from rfl)) _⟩ ?_
    rintro w1 ⟨hb1, hf1⟩
    have Hb1 := hide hb1; have Hf1 := hide hf1
    clear hb1 hf1 hbd
    simp only [Act.put, List.setIfInBounds_toArray, List.set_cons_succ, List.set_cons_zero]
    refine ⟨rfl, (fun W => ∃ z : Grow w1, W = z.v), inGrow (Fr.refl _ _), ?_⟩
    repeat (first | (refine wpMix_skip rfl ?_; simp only [Act.put, List.setIfInBounds_toArray, List.set_cons_succ, List.set_cons_zero]) | (refine wpMix_calm rfl rfl (fun K hK => ?_); go_big_quiet_op; refine hK _ ?_; clear hK K))
    refine wpMix_nil ?_
    go_wp2_with (refine wpList_clearN rfl (.tmp 31) 35 26 rfl g (m * 6) 1 (c - m) rfl (.agg zeroR.cells.toArray) 6 Try.underlying35 (by kernel_rfl) (by decide) _ 26 Hb1.out zeroR.cells (by kernel_rfl) (by rw [List.length_append, List.length_append, flat_length RouteM.length, Hdl.out, flat_length RouteM.length, List.length_drop, RouteM.length]; have := Hn.out; omega) (RouteM.mem _) ?_; rw [HE2.out]; refine wpList_gen (fun W => Blk W g ((delL l i).flatMap RouteM.cells ++ (zeroR.cells ++ ((l.drop m).flatMap RouteM.cells ++ junk).drop 6)).toArray 26 ∧ Fr (oneB g) w1 W) ⟨Hb1.out.setRow, (Fr.refl (oneB g) w1).setRow (.inr (show oneB g g from rfl)) _⟩ ?_; rintro w2 ⟨hb2, hf2⟩)
    go_ret
    refine ⟨⟨some ⟨g, 0, none⟩, m, c⟩, rfl, ⟨Hdl.out.symm, .inr ⟨g, _, rfl, hb2, ?_, by simp only; omega, by unfold maxLen; simp only; omega⟩⟩, ?_, fun b hb => .inl hb⟩
    · rw [List.length_append, flat_length RouteM.length, Hdl.out, List.length_append, List.length_drop, List.length_append, flat_length RouteM.length, List.length_drop, RouteM.length, Hjl2.out]
      have := Hn.out
      show _ = c * 6
      omega
    · exact (Hf1.out.tr hf2).mono (fun b _ hb => ⟨_, rfl, hb.symm⟩)
/-- slices.Delete of one route. -/
theorem rib_delete (w : World) (s : SlV) (l : List RouteM) (i : Nat) (hs : OwnR w s l) (hi : i < l.length) (hlen : l.length ≤ 256) :
    Calls Try.prog 40 #[.slice s.a s.len s.cap, .int .i64 i, .int .i64 ((i : Int) + 1)] w (SlTo w s (delL l i)) := by
  obtain ⟨h1, h2⟩ := hs
  rcases h2 with rfl | ⟨g, junk, ha, hb, hjl, hle, hcm⟩
  · simp only at h1; omega
  · obtain ⟨sa, sl, sc⟩ := s
    simp only at ha h1 hjl hle hcm
    subst ha
    obtain ⟨m, rfl⟩ : ∃ m, sl = m + 1 := ⟨sl - 1, by omega⟩
    exact del_blk w g m sc i l junk hb hjl h1 (by omega) (by omega) hle hcm
end Go.Proofs.Ytdmghildjadjeaa
