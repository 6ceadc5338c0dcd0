/- The law RibActive, walked: it returns true. -/
import Derived.Test.YtdmghildjadjeaaRibPlayed
namespace Go.Proofs.Ytdmghildjadjeaa
open Go.RowKit Go.BigFrame
set_option linter.unusedSimpArgs false
set_option linter.unusedVariables false
attribute [local irreducible] wpMix wpAnyG

theorem active_down (l : List RouteM) (table : Int) : activeL l table [] = [] := by
  unfold activeL
  induction l with
  | nil => rfl
  | cons r l ih =>
    rw [List.foldl_cons]
    have : stepA table [] [] r = [] := by unfold stepA; rw [if_neg]; rintro ⟨_, h⟩; simp [upB, List.getD] at h
    rw [this]; exact ih
def LoopAt (n : Nat) (w0 : World) (i : Value) (wr : World) : Prop := ∃ k : Nat, k ≤ n ∧ i = .int .i64 k ∧ Fr noB w0 wr

set_option maxRecDepth 100000 in
set_option maxHeartbeats 4000000 in
theorem law_active (s : SlV) (xs : List ActM) (table : Int) (su : SlV) (up : List Bool) (w : World) (hs : Acts w s xs) (hu : Ups w su up) :
    Calls Try.prog 6 #[.slice s.a s.len s.cap, .int .i64 table, .slice su.a su.len su.cap] w fun e w' => e = .returned (.bool true) ∧ Fr noB w w' := by
  have Hs := hide hs; have Hu := hide hu
  have hul : su.len ≤ maxLen := hu.2.1
  unfold maxLen at hul
  clear hs hu
  obtain ⟨ua, ul, uc⟩ := su
  simp only at hul ⊢
  by_cases h20 : 20 < ul
  · go_enter Try.func6, Try.ntmps6
    go_wp2_with fail
    go_ret
    exact ⟨rfl, Fr.refl _ _⟩
  · go_enter Try.func6, Try.ntmps6
    go_wp2_with fail
    refine (law_played s xs w Hs.out).mono ?_
    rintro e w2 ⟨l, g, gx, rfl, hb⟩
    obtain ⟨hf2, F, G, hrib, hdoc, _⟩ := hb
    have Hf2 := hide hf2; have Hrib := hide hrib
    clear hf2 hrib hdoc
    go_wp2_with fail
    refine (rib_active w2 F g l Hrib.out table ⟨ua, ul, uc⟩ up (SlOf.fr Hu.out Hf2.out (fun _ _ h => h) (fun _ h => h))).mono ?_
    rintro e w3 ⟨s3, rfl, hn3, hf3⟩
    have Hn3 := hide hn3; have Hf3 := hide hf3
    have HA := hide (actIs (table := table) (up := up) Hrib.out.sorted)
    have hall : ∀ x, x ∈ activeL l table up → findP (activeL l table up) x.pfx = some x := fun x hx => by rw [findP_active Hrib.out.sorted]; exact (HA.out.all x).1 hx
    have Hall := hide hall
    have halen : (activeL l table up).length ≤ 256 := Nat.le_trans (active_len' l table up) Hrib.out.len
    obtain ⟨s3a, s3l, s3c⟩ := s3
    have hs3 : s3l = (activeL l table up).length := hn3.1.1
    have Hs3 := hide hs3
    have hs3m : s3l ≤ 256 := by omega
    clear hn3 hf3 hall halen hs3
    go_wp2_with fail
    go_loopw [11] (LoopAt s3l w3) (fun i _ => s3l - (intOf i).toNat)
    case atStart => exact ⟨0, Nat.zero_le _, rfl, Fr.refl _ _⟩
    case round =>
      obtain ⟨k, hk, rfl, hf4⟩ := hrel
      have Hf4 := hide (Hf3.out.tr hf4); have Hg4 := hide hf4
      clear hf4
      by_cases hlt : k < s3l
      · have hk2 : k < (activeL l table up).length := by have := Hs3.out; omega
        have hx : (activeL l table up)[k]? = some (activeL l table up)[k] := List.getElem?_eq_getElem hk2
        have hfind := Hall.out _ (List.getElem_mem hk2)
        generalize (activeL l table up)[k] = x at hx hfind
        obtain ⟨gs, rfl, _, hcx, junk, hbs⟩ := own_at (Hn3.out.1.fr Hg4.out (fun _ _ h => h)) RouteM.length hx
        have Hx := hide hx; have Hfind := hide hfind; have Hcx := hide hcx
        have hcxp : CellsAt wr gs (k * 6 + 1) x.pfx.cells := cells_pre (ds := [.int .i64 x.iface, .int .u32 (x.gate : Nat), .int .i64 x.metric]) (by have h := cells_part hcx 1; exact h)
        have hmul : ((k : Int) * 6).toNat = k * 6 := by omega
        clear hx hfind hk hbs hcx
        go_wp2_with (refine wpList_load_at rfl 24 (.tmp 41) rfl gs (k * 6 + 1) rfl x.pfx.cells hcxp _ Try.underlying24 rfl (by kernel_rfl) ?_)
        refine (rib_best wr F g l (Hrib.out.frN Hf4.out) table x.pfx ⟨ua, ul, uc⟩ up (SlOf.fr Hu.out (Hf2.out.tr Hf4.out) (fun _ _ h => h) (fun _ h => h))).mono ?_
        rintro e w5 ⟨rfl, hf5⟩
        rw [Hfind.out]
        unfold toBest bestV
        simp only
        clear hcxp
        go_upto_region 11 with (refine wpList_store_new rfl 26 _ _ rfl _ _ (RouteM.cells _) _ rfl rfl (by simp) (by kernel_rfl) rfl (by kernel_rfl) ?_)
        refine wp_gen (fun W => CellsAt W w5.heap.size 0 x.cells ∧ Fr noB wr W) ⟨cells_new _ _ _ rfl, hf5.alloc _⟩ ?_
        rintro w6 ⟨hc6, hf6⟩
        have Hf6 := hide (Hg4.out.tr hf6)
        have hcx6 : CellsAt w6 gs (k * 6) x.cells := Hcx.out.fr hf6 (fun h => h)
        have hcxp6 : CellsAt w6 gs (k * 6 + 1) x.pfx.cells := cells_pre (ds := [.int .i64 x.iface, .int .u32 (x.gate : Nat), .int .i64 x.metric]) (by have h := cells_part hcx6 1; exact h)
        clear hf5 hf6
        refine wp_region_mix (fun W => ∃ z : Grow w6, W = z.v) (by kernel_rfl) (by kernel_rfl) (inGrow (Fr.refl _ _).drew) ?_
        iterate 3 (first | (refine wpMix_skip rfl ?_; simp only [Act.put, List.setIfInBounds_toArray, List.set_cons_succ, List.set_cons_zero]) | (refine wpMix_calm rfl rfl (fun K hK => ?_); go_big_quiet_op; refine hK _ ?_; clear hK K))
        refine wpMix_load_atw rfl 26 (.tmp 12) rfl w5.heap.size 0 rfl x.cells (fun W hW => by obtain ⟨z, rfl⟩ := hW; exact hc6.fr z.fr (fun h => h)) _ Try.underlying26 rfl (by kernel_rfl) ?_
        simp only [Act.put, List.setIfInBounds_toArray, List.set_cons_succ, List.set_cons_zero]
        iterate 3 (first | (refine wpMix_skip rfl ?_; simp only [Act.put, List.setIfInBounds_toArray, List.set_cons_succ, List.set_cons_zero]) | (refine wpMix_calm rfl rfl (fun K hK => ?_); go_big_quiet_op; refine hK _ ?_; clear hK K))
        refine wpMix_load_atw rfl 26 (.tmp 53) rfl gs (k * 6) (by go_simp) x.cells (fun W hW => by obtain ⟨z, rfl⟩ := hW; exact hcx6.fr z.fr (fun h => h)) _ Try.underlying26 rfl (by kernel_rfl) ?_
        simp only [Act.put, List.setIfInBounds_toArray, List.set_cons_succ, List.set_cons_zero]
        refine wpMix_eqs rfl true 26 (.tmp 50) (.tmp 54) rfl x.cells.toArray x.cells.toArray rfl rfl true (by kernel_rfl) (fun w => by rw [route_equal, decide_eq_true rfl]) ?_
        rw [show (true ^^ true) = false from rfl]
        simp only [Act.put, List.setIfInBounds_toArray, List.set_cons_succ, List.set_cons_zero]
        rcases Nat.eq_zero_or_pos k with hk0 | hk0
        · have gpos : decide ((0 : Int) < (k : Int)) = false := by simp; omega
          repeat (first | (refine wpMix_skip rfl ?_; simp only [Act.put, List.setIfInBounds_toArray, List.set_cons_succ, List.set_cons_zero]) | (refine wpMix_calm rfl rfl (fun K hK => ?_); go_big_quiet_op; refine hK _ ?_; clear hK K))
          refine wpMix_nil ?_
          clear hc6 hcx6 hcxp6
          go_wp2_with fail
          go_roundw
          case rel => exact ⟨k + 1, by omega, by go_num, Hf6.out.drew⟩
          case measure => simp [intOf]; omega
        · obtain ⟨j, hj⟩ : ∃ j, k = j + 1 := ⟨k - 1, by omega⟩
          have hsub : (k : Int) - 1 = (j : Int) := by omega
          have gpos : decide ((0 : Int) < (k : Int)) = true := by simp; omega
          have hjl : j < (activeL l table up).length := by have := (List.getElem?_eq_some_iff.1 Hx.out).1; omega
          have hy : (activeL l table up)[j]? = some (activeL l table up)[j] := List.getElem?_eq_getElem hjl
          generalize (activeL l table up)[j] = y at hy
          have hne : ¬ y.pfx = x.pfx := by
            have hp := List.pairwise_iff_getElem.1 HA.out.asc
            obtain ⟨h1, h2⟩ := List.getElem?_eq_some_iff.1 hy
            obtain ⟨h3, h4⟩ := List.getElem?_eq_some_iff.1 Hx.out
            have := hp j k h1 h3 (by omega)
            rw [h2, h4] at this
            exact ltP_ne this
          obtain ⟨gs', hg', _, hcy, _⟩ := own_at (Hn3.out.1.fr Hf6.out (fun _ _ h => h)) RouteM.length hy
          simp only [Option.some.injEq, Addr.mk.injEq, and_true] at hg'
          subst hg'
          have hcyp : CellsAt w6 gs (j * 6 + 1) y.pfx.cells := cells_pre (ds := [.int .i64 y.iface, .int .u32 (y.gate : Nat), .int .i64 y.metric]) (by have h := cells_part hcy 1; exact h)
          have hmulj : ((j : Int) * 6).toNat = j * 6 := by omega
          have hjs : j < s3l := by omega
          have Hj := hide hj
          clear hj hy
          iterate 10 (first | (refine wpMix_skip rfl ?_; simp only [Act.put, List.setIfInBounds_toArray, List.set_cons_succ, List.set_cons_zero]) | (refine wpMix_calm rfl rfl (fun K hK => ?_); go_big_quiet_op; refine hK _ ?_; clear hK K))
          refine wpMix_load_atw rfl 24 (.tmp 65) rfl gs (j * 6 + 1) (by go_simp) y.pfx.cells (fun W hW => by obtain ⟨z, rfl⟩ := hW; exact hcyp.fr z.fr (fun h => h)) _ Try.underlying24 rfl (by kernel_rfl) ?_
          simp only [Act.put, List.setIfInBounds_toArray, List.set_cons_succ, List.set_cons_zero]
          iterate 4 (first | (refine wpMix_skip rfl ?_; simp only [Act.put, List.setIfInBounds_toArray, List.set_cons_succ, List.set_cons_zero]) | (refine wpMix_calm rfl rfl (fun K hK => ?_); go_big_quiet_op; refine hK _ ?_; clear hK K))
          refine wpMix_load_atw rfl 24 (.tmp 70) rfl gs (k * 6 + 1) (by go_simp) x.pfx.cells (fun W hW => by obtain ⟨z, rfl⟩ := hW; exact hcxp6.fr z.fr (fun h => h)) _ Try.underlying24 rfl (by kernel_rfl) ?_
          simp only [Act.put, List.setIfInBounds_toArray, List.set_cons_succ, List.set_cons_zero]
          refine wpMix_eqs rfl false 24 (.tmp 66) (.tmp 71) rfl y.pfx.cells.toArray x.pfx.cells.toArray rfl rfl false (by kernel_rfl) (fun w => by rw [prefix_equal, decide_eq_false hne]) ?_
          rw [show (false ^^ false) = false from rfl]
          simp only [Act.put, List.setIfInBounds_toArray, List.set_cons_succ, List.set_cons_zero]
          repeat (first | (refine wpMix_skip rfl ?_; simp only [Act.put, List.setIfInBounds_toArray, List.set_cons_succ, List.set_cons_zero]) | (refine wpMix_calm rfl rfl (fun K hK => ?_); go_big_quiet_op; refine hK _ ?_; clear hK K))
          refine wpMix_nil ?_
          clear hc6 hcx6 hcxp6 hcyp hcy hne
          go_wp2_with fail
          go_roundw
          case rel => exact ⟨k + 1, by omega, by go_num, Hf6.out.drew⟩
          case measure => simp [intOf]; omega
      · go_wp2_with fail
        refine (rib_active wr F g l (Hrib.out.frN Hf4.out) table ⟨none, 0, 0⟩ [] ⟨rfl, Nat.zero_le _, .inl rfl⟩).mono ?_
        rintro e w7 ⟨s7, rfl, hn7, hf7⟩
        rw [active_down] at hn7
        obtain ⟨s7a, s7l, s7c⟩ := s7
        have h0 : s7l = 0 := hn7.1.1
        subst h0
        have Hf7 := hide (Hf4.out.tr hf7)
        clear hn7 hf7
        go_wp2_with fail
        refine (law_known w7).mono ?_
        rintro e w8 ⟨rfl, hf8⟩
        have Hf8 := hide (Hf7.out.tr hf8)
        clear hf8
        go_wp2_with fail
        go_ret
        exact ⟨rfl, Hf2.out.tr Hf8.out⟩
end Go.Proofs.Ytdmghildjadjeaa
