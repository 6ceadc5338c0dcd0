/- The law MatchTells, walked: it returns true. -/
import Derived.Test.YtgdbafgkledpbaaMatchKnown
namespace Go.Proofs.Ytgdbafgkledpbaa
open Go.RowKit Go.BigFrame
set_option linter.unusedSimpArgs false
set_option linter.unusedVariables false

set_option maxRecDepth 100000 in
set_option maxHeartbeats 4000000 in
theorem law_tells (q : SlV) (rs : List RuleM) (s : SlV) (ts : List TableM) (iface : ByteArray) (p : PacketM) (hp : p.wf) (x : SideM) (hx : x.wf) (n : Nat) (hn : n < 4294967296) (port : Int) (w : World) (hq : Rules w q rs) (hs : Tabs w s ts) :
    Calls Try.prog 3 #[.slice q.a q.len q.cap, .slice s.a s.len s.cap, .string iface, p.val, x.val, .int .u32 (n : Nat), .int .i64 port] w fun e w' => e = .returned (.bool true) ∧ Fr noB w w' := by
  obtain ⟨a, len, cap⟩ := q
  have hlen : len = rs.length := hq.1
  have hmax : len ≤ maxLen := hq.2.1
  unfold maxLen at hmax
  have Hs := hide hs; have Hlen := hide hlen; have Hq := hide hq
  clear hs hlen hq
  show Calls Try.prog 3 #[.slice a len cap, .slice s.a s.len s.cap, .string iface, .agg p.cells.toArray, .agg x.cells.toArray, .int .u32 (n : Nat), .int .i64 port] w _
  go_enter Try.func3, Try.ntmps3
  go_upto_region 1 with (fail)
  refine wp_gen (fun w2 => Blk w2 w.heap.size p.cells.toArray 30 ∧ Blk w2 (w.heap.size + 1) x.cells.toArray 36 ∧ Fr noB w w2) ⟨(Blk.alloc_new _ _ _).fr ((Fr.refl noB _).alloc _) (fun h => h), ?_, ((Fr.refl _ _).alloc _).alloc _⟩ ?_
  · have h := Blk.alloc_new (w.alloc (.cells p.cells.toArray 30)) x.cells.toArray 36
    rw [World.size_alloc] at h
    exact h
  rintro w1 ⟨hb1, hb2, hf⟩
  have HB1 := hide hb1.cells; have HB2 := hide hb2.cells; have Hf := hide hf
  clear hb1 hb2 hf
  go_wp2_with fail
  refine (law_heavy ⟨a, len, cap⟩ rs s ts _ (SlOf.fr Hq.out Hf.out (fun _ _ h => h) (fun _ h => h)) (Hs.out.fr Hf.out)).mono ?_
  rintro e w2 ⟨b, rfl, hf2⟩
  have Hf2 := hide hf2
  have HB1' := hide (HB1.out.fr hf2 (fun h => h)); have HB2' := hide (HB2.out.fr hf2 (fun h => h))
  clear hf2
  cases b with
  | true =>
    go_wp2_with fail
    go_ret
    exact ⟨rfl, Hf.out.tr Hf2.out⟩
  | false =>
    go_wp2_with (refine wpList_load_atw rfl 30 (.tmp 10) rfl _ _ rfl p.cells HB1'.out _ Try.underlying30 rfl (by kernel_rfl) ?_)
    refine (law_long p _).mono ?_
    rintro e w3 ⟨b, rfl, hf3⟩
    have Hf3 := hide hf3
    cases b with
    | true =>
      clear hf3
      go_wp2_with fail
      go_ret
      exact ⟨rfl, (Hf.out.tr Hf2.out).tr Hf3.out⟩
    | false =>
      have c1 : w3.cell? ⟨w.heap.size + 1, 1, none⟩ = some (.string x.table) := (HB2'.out.fr hf3 (fun h => h)) 1 _ rfl
      have HF := hide ((Hf.out.tr Hf2.out).tr hf3)
      have HP := hide (HB1'.out.fr hf3 (fun h => h)); have HS := hide (HB2'.out.fr hf3 (fun h => h))
      have Hg0 := hide (show w.heap.size < w3.heap.size from (block_of_cell c1 |> fun h => by simp only at h; omega))
      clear hf3 Hf Hf2 Hf3 HB1 HB2 HB1' HB2'
      by_cases h1 : 100 < iface.size
      · go_wp2_with fail
        go_ret
        exact ⟨rfl, HF.out⟩
      by_cases h2 : 100 < x.table.size
      · go_wp2_with fail
        go_ret
        exact ⟨rfl, HF.out⟩
      go_wp2_with fail
      go_loopw [15] (NegAt w3 rs.length) (fun i _ => len - (intOf i).toNat)
      case atStart => exact ⟨0, Nat.zero_le _, rfl, Fr.refl _ _⟩
      case round =>
        obtain ⟨k, hk, rfl, hf⟩ := hrel
        have Hf := hide hf
        have HP' := hide (HP.out.fr hf (fun h => h)); have HS' := hide (HS.out.fr hf (fun h => h))
        clear hf c1
        by_cases hlt : k < len
        · have hk2 : k < rs.length := by have := Hlen.out; omega
          have hx : rs[k]? = some rs[k] := List.getElem?_eq_getElem hk2
          obtain ⟨b, o, rfl, hbw, hc, hok⟩ := SlOf.at (SlOf.fr Hq.out (HF.out.tr Hf.out) (fun _ _ h => h) (fun _ h => h)) hx
          have Hx := hide hx; have Hok := hide hok; have Hc := hide hc
          clear hx hk hok hc
          generalize rs[k] = r at *
          have hmul : ((k : Int) * 28).toNat = k * 28 := by omega
          go_upto_region 6 with (fail)
          refine wp_region_mix (fun W => ∃ z : Grow wr, W = z.v) (by kernel_rfl) (by kernel_rfl) (inGrow (Fr.refl _ _).drew) ?_
          have hCR : ∀ W, (∃ z : Grow wr, W = z.v) → CellsAt W b (o + k * 28) r.cells := by rintro _ ⟨z, rfl⟩; exact Hc.out.fr z.fr (fun h => h)
          have hCP : ∀ W, (∃ z : Grow wr, W = z.v) → CellsAt W w.heap.size 0 p.cells := by rintro _ ⟨z, rfl⟩; exact HP'.out.fr z.fr (fun h => h)
          have HCR := hide hCR; have HCP := hide hCP
          clear hCR hCP
          iterate 3 (first | (refine wpMix_skip rfl ?_; simp only [Act.put, List.setIfInBounds_toArray, List.set_cons_succ, List.set_cons_zero]) | (refine wpMix_calm rfl rfl (fun K hK => ?_); go_big_quiet_op; refine hK _ ?_; clear hK K))
          refine wpMix_load_at rfl 43 (.tmp 42) rfl _ _ rfl r.cells HCR.out _ Try.underlying43 rfl (by kernel_rfl) ?_
          simp only [Act.put, List.setIfInBounds_toArray, List.set_cons_succ, List.set_cons_zero]
          iterate 2 (first | (refine wpMix_skip rfl ?_; simp only [Act.put, List.setIfInBounds_toArray, List.set_cons_succ, List.set_cons_zero]) | (refine wpMix_calm rfl rfl (fun K hK => ?_); go_big_quiet_op; refine hK _ ?_; clear hK K))
          refine wpMix_load_at rfl 30 (.tmp 10) rfl _ _ rfl p.cells HCP.out _ Try.underlying30 rfl (by kernel_rfl) ?_
          simp only [Act.put, List.setIfInBounds_toArray, List.set_cons_succ, List.set_cons_zero]
          refine wpMix_spine rfl rfl (fun K hK => ?_); go_wp2_with fail
          refine (match_one r Hok.out p hp iface s ts _ (Hs.out.fr ((HF.out.tr Hf.out).drew))).mono ?_
          rintro e w4 ⟨rfl, hf4⟩
          have hf4 : Fr noB wr w4 := (Fr.refl _ _).drew.tr hf4
          have Hf4 := hide hf4
          refine hK _ _ rfl (inGrow hf4) ?_
          clear hK K hf4
          iterate 3 (first | (refine wpMix_skip rfl ?_; simp only [Act.put, List.setIfInBounds_toArray, List.set_cons_succ, List.set_cons_zero]) | (refine wpMix_calm rfl rfl (fun K hK => ?_); go_big_quiet_op; refine hK _ ?_; clear hK K))
          refine wpMix_load_at rfl 43 (.tmp 50) rfl _ _ rfl r.cells HCR.out _ Try.underlying43 rfl (by kernel_rfl) ?_
          simp only [Act.put, List.setIfInBounds_toArray, List.set_cons_succ, List.set_cons_zero]
          iterate 2 (first | (refine wpMix_skip rfl ?_; simp only [Act.put, List.setIfInBounds_toArray, List.set_cons_succ, List.set_cons_zero]) | (refine wpMix_calm rfl rfl (fun K hK => ?_); go_big_quiet_op; refine hK _ ?_; clear hK K))
          refine wpMix_load_at rfl 30 (.tmp 10) rfl _ _ rfl p.cells HCP.out _ Try.underlying30 rfl (by kernel_rfl) ?_
          simp only [Act.put, List.setIfInBounds_toArray, List.set_cons_succ, List.set_cons_zero]
          refine wpMix_spine rfl rfl (fun K hK => ?_); go_wp2_with fail
          refine (ref_one r Hok.out p hp iface s ts _ (Hs.out.fr ((HF.out.tr Hf.out).tr Hf4.out))).mono ?_
          rintro e w5 ⟨rfl, hf5⟩
          have hf5 : Fr noB wr w5 := Hf4.out.tr hf5
          have Hf5 := hide hf5
          refine hK _ _ rfl (inGrow hf5) ?_
          clear hK K hf5
          repeat (first | (refine wpMix_skip rfl ?_; simp only [Act.put, List.setIfInBounds_toArray, List.set_cons_succ, List.set_cons_zero]) | (refine wpMix_calm rfl rfl (fun K hK => ?_); go_big_quiet_op; refine hK _ ?_; clear hK K))
          refine wpMix_nil ?_
          go_wp2_with fail
          go_roundw
          case rel => exact ⟨k + 1, by omega, by go_num, Hf.out.tr Hf5.out⟩
          case measure => simp [intOf]; omega
        · go_upto_region 8 with (fail)
          refine wp_region_mix (fun W => ∃ z : Grow wr, W = z.v) (by kernel_rfl) (by kernel_rfl) (inGrow (Fr.refl _ _).drew) ?_
          have hCP : ∀ W, (∃ z : Grow wr, W = z.v) → CellsAt W w.heap.size 0 p.cells := by rintro _ ⟨z, rfl⟩; exact HP'.out.fr z.fr (fun h => h)
          have hCS : ∀ W, (∃ z : Grow wr, W = z.v) → CellsAt W (w.heap.size + 1) 0 x.cells := by rintro _ ⟨z, rfl⟩; exact HS'.out.fr z.fr (fun h => h)
          have HCP := hide hCP; have HCS := hide hCS
          clear hCP hCS
          iterate 3 (first | (refine wpMix_skip rfl ?_; simp only [Act.put, List.setIfInBounds_toArray, List.set_cons_succ, List.set_cons_zero]) | (refine wpMix_calm rfl rfl (fun K hK => ?_); go_big_quiet_op; refine hK _ ?_; clear hK K))
          refine wpMix_load_atw rfl 30 (.tmp 10) rfl _ _ rfl p.cells HCP.out _ Try.underlying30 rfl (by kernel_rfl) ?_
          simp only [Act.put, List.setIfInBounds_toArray, List.set_cons_succ, List.set_cons_zero]
          refine wpMix_spine rfl rfl (fun K hK => ?_); go_wp2_with fail
          refine (match_last ⟨a, len, cap⟩ rs p hp iface s ts _ (SlOf.fr Hq.out (HF.out.tr Hf.out).drew (fun _ _ h => h) (fun _ h => h)) (Hs.out.fr (HF.out.tr Hf.out).drew)).mono ?_
          rintro e w4 ⟨rfl, hf4⟩
          have hf4 : Fr noB wr w4 := (Fr.refl _ _).drew.tr hf4
          have Hf4 := hide hf4
          refine hK _ _ rfl (inGrow hf4) ?_
          clear hK K hf4
          iterate 3 (first | (refine wpMix_skip rfl ?_; simp only [Act.put, List.setIfInBounds_toArray, List.set_cons_succ, List.set_cons_zero]) | (refine wpMix_calm rfl rfl (fun K hK => ?_); go_big_quiet_op; refine hK _ ?_; clear hK K))
          refine wpMix_load_atw rfl 30 (.tmp 10) rfl _ _ rfl p.cells HCP.out _ Try.underlying30 rfl (by kernel_rfl) ?_
          simp only [Act.put, List.setIfInBounds_toArray, List.set_cons_succ, List.set_cons_zero]
          refine wpMix_spine rfl rfl (fun K hK => ?_); go_wp2_with fail
          refine (ref_last ⟨a, len, cap⟩ rs p hp iface s ts _ (SlOf.fr Hq.out ((HF.out.tr Hf.out).tr Hf4.out) (fun _ _ h => h) (fun _ h => h)) (Hs.out.fr ((HF.out.tr Hf.out).tr Hf4.out))).mono ?_
          rintro e w5 ⟨rfl, hf5⟩
          have hf5 : Fr noB wr w5 := Hf4.out.tr hf5
          have Hf5 := hide hf5
          refine hK _ _ rfl (inGrow hf5) ?_
          clear hK K hf5
          iterate 2 (first | (refine wpMix_skip rfl ?_; simp only [Act.put, List.setIfInBounds_toArray, List.set_cons_succ, List.set_cons_zero]) | (refine wpMix_calm rfl rfl (fun K hK => ?_); go_big_quiet_op; refine hK _ ?_; clear hK K))
          refine wpMix_load_atw rfl 36 (.tmp 11) rfl _ _ rfl x.cells HCS.out _ Try.underlying36 rfl (by kernel_rfl) ?_
          simp only [Act.put, List.setIfInBounds_toArray, List.set_cons_succ, List.set_cons_zero]
          iterate 3 (first | (refine wpMix_skip rfl ?_; simp only [Act.put, List.setIfInBounds_toArray, List.set_cons_succ, List.set_cons_zero]) | (refine wpMix_calm rfl rfl (fun K hK => ?_); go_big_quiet_op; refine hK _ ?_; clear hK K))
          refine wpMix_spine rfl rfl (fun K hK => ?_); go_wp2_with fail
          refine (match_side x hx s ts n hn port _ (Hs.out.fr ((HF.out.tr Hf.out).tr Hf5.out))).mono ?_
          rintro e w6 ⟨rfl, hf6⟩
          have hf6 : Fr noB wr w6 := Hf5.out.tr hf6
          have Hf6 := hide hf6
          refine hK _ _ rfl (inGrow hf6) ?_
          clear hK K hf6
          refine wpMix_load_atw rfl 36 (.tmp 11) rfl _ _ rfl x.cells HCS.out _ Try.underlying36 rfl (by kernel_rfl) ?_
          simp only [Act.put, List.setIfInBounds_toArray, List.set_cons_succ, List.set_cons_zero]
          iterate 3 (first | (refine wpMix_skip rfl ?_; simp only [Act.put, List.setIfInBounds_toArray, List.set_cons_succ, List.set_cons_zero]) | (refine wpMix_calm rfl rfl (fun K hK => ?_); go_big_quiet_op; refine hK _ ?_; clear hK K))
          refine wpMix_spine rfl rfl (fun K hK => ?_); go_wp2_with fail
          refine (ref_side x hx s ts n hn port _ (Hs.out.fr ((HF.out.tr Hf.out).tr Hf6.out))).mono ?_
          rintro e w7 ⟨rfl, hf7⟩
          have hf7 : Fr noB wr w7 := Hf6.out.tr hf7
          have Hf7 := hide hf7
          refine hK _ _ rfl (inGrow hf7) ?_
          clear hK K hf7
          iterate 3 (first | (refine wpMix_skip rfl ?_; simp only [Act.put, List.setIfInBounds_toArray, List.set_cons_succ, List.set_cons_zero]) | (refine wpMix_calm rfl rfl (fun K hK => ?_); go_big_quiet_op; refine hK _ ?_; clear hK K))
          refine wpMix_spine rfl rfl (fun K hK => ?_); go_wp2_with fail
          refine (law_known _).mono ?_
          rintro e w8 ⟨rfl, hf8⟩
          have hf8 : Fr noB wr w8 := Hf7.out.tr hf8
          have Hf8 := hide hf8
          refine hK _ _ rfl (inGrow hf8) ?_
          clear hK K hf8
          repeat (first | (refine wpMix_skip rfl ?_; simp only [Act.put, List.setIfInBounds_toArray, List.set_cons_succ, List.set_cons_zero]) | (refine wpMix_calm rfl rfl (fun K hK => ?_); go_big_quiet_op; refine hK _ ?_; clear hK K))
          refine wpMix_nil ?_
          go_wp2_with fail
          go_ret
          exact ⟨rfl, (HF.out.tr Hf.out).tr Hf8.out⟩
end Go.Proofs.Ytgdbafgkledpbaa
