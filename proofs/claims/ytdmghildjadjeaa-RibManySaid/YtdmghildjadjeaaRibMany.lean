/- The law RibMany, walked: it returns true. -/
import Derived.Test.YtdmghildjadjeaaRibPlayed
namespace Go.Proofs.Ytdmghildjadjeaa
open Go.RowKit Go.BigFrame
set_option linter.unusedSimpArgs false
set_option linter.unusedVariables false
attribute [local irreducible] wpMix wpAnyG

def manyR (k : Nat) : RouteM := ⟨0, ⟨k * 256, 24⟩, 1, 0, 0⟩
def manyL (k : Nat) : List RouteM := (List.range (min k 256)).map manyR
def nineR : RouteM := ⟨0, ⟨0, 24⟩, 1, 0, 9⟩
theorem many_is : ∀ k, k < 300 → isR (manyR k) = true := by decide +kernel
theorem nine_is : isR nineR = true := by decide +kernel
theorem many_len (k : Nat) : (manyL k).length = min k 256 := by simp [manyL]
theorem many_at {k j : Nat} {x : RouteM} (h : (manyL k)[j]? = some x) : x = manyR j ∧ j < min k 256 := by
  have hl := (List.getElem?_eq_some_iff.1 h).1
  rw [many_len] at hl
  unfold manyL at h
  rw [List.getElem?_map, List.getElem?_range hl] at h
  exact ⟨(Option.some.inj h).symm, hl⟩
theorem many_lt {j k : Nat} (h : j < k) : ltR (manyR j) (manyR k) := .inr ⟨rfl, .inl (by show j * 256 < k * 256; omega)⟩
theorem many_pos (k : Nat) : posR (manyL k) (manyR k) = min k 256 := by
  refine posR_eq (by rw [many_len]; exact Nat.le_refl _) (fun j x hj hx => ?_) (fun x hx => ?_)
  · obtain ⟨rfl, _⟩ := many_at hx
    exact many_lt (by omega)
  · have := (many_at hx).2; omega
theorem many_has (k : Nat) : hasR (manyL k) (manyR k) = false := by
  refine hasR_end ?_
  rw [many_pos, List.getElem?_eq_none (by rw [many_len]; exact Nat.le_refl _)]
theorem many_succ {k : Nat} (h : k < 256) : manyL (k + 1) = manyL k ++ [manyR k] := by
  unfold manyL
  rw [show min (k + 1) 256 = min k 256 + 1 by omega, List.range_succ, List.map_append, show min k 256 = k by omega]
  rfl
theorem add_many {k : Nat} (h : k < 300) : addR (manyL k) (manyR k) = ⟨if k < 256 then 0 else 6, manyL (k + 1)⟩ := by
  unfold addR
  rw [many_is k h, many_has, many_len, if_neg (by simp)]
  by_cases hk : k < 256
  · rw [if_neg (by omega), if_pos hk, many_succ hk]
    unfold putR
    rw [many_has, if_neg (by simp), many_pos, List.take_of_length_le (by rw [many_len]; exact Nat.le_refl _), List.drop_of_length_le (by rw [many_len]; exact Nat.le_refl _)]
  · rw [if_pos ⟨rfl, by omega⟩, if_neg hk]
    unfold manyL
    rw [show min k 256 = min (k + 1) 256 by omega]
theorem nine_pos {n : Nat} (h : 0 < n) : posR (manyL n) nineR = 0 ∧ hasR (manyL n) nineR = true := by
  have h0 : (manyL n)[0]? = some (manyR 0) := by
    unfold manyL
    rw [List.getElem?_map, List.getElem?_range (by omega)]; rfl
  have hp : posR (manyL n) nineR = 0 := posR_eq (Nat.zero_le _) (fun j x hj _ => by omega) (fun x hx => by
    rw [h0] at hx
    obtain rfl := Option.some.inj hx
    unfold ltR manyR nineR; simp)
  refine ⟨hp, ?_⟩
  rw [hasR_of (x := manyR 0) (by rw [hp]; exact h0)]
  decide
theorem add_nine {n : Nat} (h : 0 < n) : (addR (manyL n) nineR).e = 0 ∧ (addR (manyL n) nineR).l.length = min n 256 := by
  obtain ⟨h1, h2⟩ := nine_pos h
  unfold addR
  rw [nine_is, h2, if_neg (by simp), if_neg (by simp)]
  unfold putR
  rw [h2, if_pos rfl, List.length_set, many_len]
  exact ⟨rfl, rfl⟩
theorem manyR_wf {k : Nat} (h : k < 300) : (manyR k).wf := by unfold RouteM.wf PrefixM.wf i64b manyR; simp only; omega
theorem nineR_wf : nineR.wf := by unfold RouteM.wf PrefixM.wf i64b nineR; simp
def ManyAt (w0 : World) (n g : Nat) (i : Value) (wr : World) : Prop := ∃ (k : Nat) (F : Nat → Prop), k ≤ n ∧ i = .int .i64 k ∧ Rib wr F g (manyL k) ∧ Fr noB w0 wr ∧ ∀ b, F b → w0.heap.size ≤ b

set_option maxRecDepth 100000 in
set_option maxHeartbeats 4000000 in
theorem law_many (n : Int) (w : World) : Calls Try.prog 4 #[.int .i64 n] w fun e w' => e = .returned (.bool true) ∧ Fr noB w w' := by
  by_cases hn : n < 0 ∨ 300 < n
  · rcases hn with hn | hn
    all_goals
      go_enter Try.func4, Try.ntmps4
      go_wp2_with fail
      refine (law_known w).mono ?_
      rintro e w2 ⟨rfl, hf2⟩
      have Hf2 := hide hf2
      clear hf2
      go_wp2_with fail
      go_ret
      exact ⟨rfl, Hf2.out⟩
  · obtain ⟨m, rfl⟩ : ∃ m : Nat, n = (m : Int) := ⟨n.toNat, by omega⟩
    have hm : m ≤ 300 := by omega
    have hm0 : ¬ (m : Int) < 0 := by omega
    have hm1 : ¬ (300 : Int) < (m : Int) := by omega
    clear hn
    go_enter Try.func4, Try.ntmps4
    go_wp2_with fail
    refine (rib_new _).mono ?_
    rintro e w1 ⟨rfl, hr, hf1⟩
    have Hr := hide hr; have Hf1 := hide hf1
    obtain ⟨g, hg⟩ : ∃ g, w.heap.size = g := ⟨_, rfl⟩
    have Hr1 : Hid (∃ F, Rib w1 F g (manyL 0) ∧ ∀ b, F b → w.heap.size ≤ b) := by rw [← hg]; exact ⟨_, Hr.out, fun b hb => hb.1⟩
    rw [hg]
    clear hr hf1 hg Hr
    go_wp2_with fail
    go_loopw [4] (ManyAt w m g) (fun i _ => m - (intOf i).toNat)
    case atStart => obtain ⟨F, h1, h2⟩ := Hr1.out; exact ⟨0, F, Nat.zero_le _, rfl, h1, Hf1.out, h2⟩
    case round =>
      obtain ⟨k, F, hk, rfl, hrib, hf, hF⟩ := hrel
      have Hrib := hide hrib; have Hf := hide hf; have HF := hide hF
      clear hrib hf hF Hr1
      by_cases hlt : k < m
      · by_cases h256 : k < 256
        · have HA := hide (show addR (manyL k) (manyR k) = ⟨0, manyL (k + 1)⟩ from by rw [add_many (by omega), if_pos h256])
          go_wp2_with (first | (refine wpList_build_as rfl 24 _ rfl (manyR k).pfx.cells.toArray (by kernel_rfl) ?_) | (refine wpList_build_as rfl 26 _ rfl (manyR k).cells.toArray (by kernel_rfl) ?_))
          refine (rib_add wr F g (manyL k) Hrib.out (manyR k) (manyR_wf (by omega))).mono ?_
          rintro e w2 ⟨rfl, hr2, hf2⟩
          rw [HA.out] at hr2 ⊢
          have Hr2 := hide hr2
          have Hf2 := hide (show Fr noB w w2 from Hf.out.trans hf2 (fun _ _ h => h) (fun b hb h => by have := HF.out b h; omega))
          have HF2 := hide (show ∀ b, gr F wr w2 b → w.heap.size ≤ b from fun b hb => by
            rcases hb with hb | hb
            · exact HF.out b hb
            · have := Hf.out.size; omega)
          clear hr2 hf2
          simp only
          go_wp2_with fail
          go_roundw
          case rel => exact ⟨k + 1, gr F wr w2, by omega, by go_num, Hr2.out, Hf2.out, HF2.out⟩
          case measure => simp [intOf]; omega
        · have HA := hide (show addR (manyL k) (manyR k) = ⟨6, manyL (k + 1)⟩ from by rw [add_many (by omega), if_neg h256])
          go_wp2_with (first | (refine wpList_build_as rfl 24 _ rfl (manyR k).pfx.cells.toArray (by kernel_rfl) ?_) | (refine wpList_build_as rfl 26 _ rfl (manyR k).cells.toArray (by kernel_rfl) ?_))
          refine (rib_add wr F g (manyL k) Hrib.out (manyR k) (manyR_wf (by omega))).mono ?_
          rintro e w2 ⟨rfl, hr2, hf2⟩
          rw [HA.out] at hr2 ⊢
          have Hr2 := hide hr2
          have Hf2 := hide (show Fr noB w w2 from Hf.out.trans hf2 (fun _ _ h => h) (fun b hb h => by have := HF.out b h; omega))
          have HF2 := hide (show ∀ b, gr F wr w2 b → w.heap.size ≤ b from fun b hb => by
            rcases hb with hb | hb
            · exact HF.out b hb
            · have := Hf.out.size; omega)
          clear hr2 hf2
          simp only
          go_wp2_with fail
          go_roundw
          case rel => exact ⟨k + 1, gr F wr w2, by omega, by go_num, Hr2.out, Hf2.out, HF2.out⟩
          case measure => simp [intOf]; omega
      · obtain rfl : k = m := by omega
        have hmn := run_min_int Try.prog
        by_cases h0 : k = 0
        · subst h0
          clear hlt hk hm1 hm0 hmn
          have hm2 : ∀ ats ty w, (Builtin.min_ ats ty #[.int .i64 0, .int .i64 256]).run Try.prog w = .ok (.int .i64 0) w := fun ats ty w => by rw [run_min_int]; rfl
          go_wp2_with fail
          refine (rib_all wr F g _ Hrib.out).mono ?_
          rintro e w3 ⟨⟨s3a, s3l, s3c⟩, rfl, hn3, hf3⟩
          have hl : s3l = 0 := hn3.1.1
          subst hl
          have Hf3 := hide (Hf.out.tr hf3)
          clear hn3 hf3
          go_wp2_with fail
          refine (law_known w3).mono ?_
          rintro e w4 ⟨rfl, hf4⟩
          have Hf4 := hide (Hf3.out.tr hf4)
          clear hf4
          go_wp2_with fail
          go_ret
          exact ⟨rfl, Hf4.out⟩
        · have hk0 : (0 : Int) < (k : Int) := by omega
          have HA := hide (add_nine (n := k) (by omega))
          clear h0 hlt hk hm1 hm0
          go_wp2_with fail
          refine (rib_add wr F g (manyL k) Hrib.out nineR nineR_wf).mono ?_
          rintro e w2 ⟨rfl, hr2, hf2⟩
          rw [HA.out.1]
          have Hr2 := hide hr2
          have Hf2 := hide (show Fr noB w w2 from Hf.out.trans hf2 (fun _ _ h => h) (fun b hb h => by have := HF.out b h; omega))
          clear hr2 hf2
          go_wp2_with fail
          refine (rib_all w2 _ g _ Hr2.out).mono ?_
          rintro e w3 ⟨⟨s3a, s3l, s3c⟩, rfl, hn3, hf3⟩
          have hl : s3l = min k 256 := hn3.1.1.trans HA.out.2
          have Hf3 := hide (Hf2.out.tr hf3)
          clear hn3 hf3
          have hmin : (s3l = k ∧ min (k : Int) 256 = (k : Int)) ∨ (s3l = 256 ∧ min (k : Int) 256 = 256) := by omega
          clear hl
          rcases hmin with ⟨rfl, hmin⟩ | ⟨rfl, hmin⟩
          all_goals
            go_wp2_with fail
            refine (law_known w3).mono ?_
            rintro e w4 ⟨rfl, hf4⟩
            have Hf4 := hide (Hf3.out.tr hf4)
            clear hf4 hmin
            go_wp2_with fail
            go_ret
            exact ⟨rfl, Hf4.out⟩
end Go.Proofs.Ytdmghildjadjeaa
