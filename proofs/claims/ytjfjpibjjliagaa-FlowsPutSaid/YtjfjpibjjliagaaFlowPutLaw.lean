/- The law FlowsPut, walked: it returns true. -/
import Derived.Test.YtjfjpibjjliagaaFlowFull
import Derived.Test.YtjfjpibjjliagaaSub
namespace Go.Proofs.Ytjfjpibjjliagaa
open Go.RowKit Go.BigFrame
set_option linter.unusedSimpArgs false
set_option linter.unusedVariables false
attribute [local irreducible] wpMix wpAnyG

theorem keys_idx {fl : List FlowM} (h : Keys fl) {i : Nat} {f : FlowM} (hx : fl[i]? = some f) : fl.findIdx? (fun g => decide (g.key = f.key)) = some i := by
  obtain ⟨hl, rfl⟩ := List.getElem?_eq_some_iff.1 hx
  rw [List.findIdx?_eq_some_iff_getElem]
  refine ⟨hl, by simp, fun j hj => ?_⟩
  have := List.pairwise_iff_getElem.1 h j i (by simp; omega) (by simpa using hl) hj
  simp only [List.getElem_map] at this
  simpa using this
def rekey (f : FlowM) (k : KeyM) : FlowM := { f with key := k }
theorem rekey_cells (f : FlowM) (k : KeyM) : f.cells.take 0 ++ k.cells ++ f.cells.drop (0 + k.cells.length) = (rekey f k).cells := rfl
theorem put_at {fl : List FlowM} (h : Keys fl) {i : Nat} {x : FlowM} (hx : fl[i]? = some x) (f : FlowM) : putF fl (rekey f x.key) = ⟨true, fl.set i (rekey f x.key)⟩ := by
  unfold putF
  rw [show (rekey f x.key).key = x.key from rfl, keys_idx h hx]

set_option maxRecDepth 100000 in
set_option maxHeartbeats 4000000 in
theorem law_put (s : SlV) (xs : List FlowM) (f : FlowM) (hwf : f.wf) (i : Int) (w : World) (hs : Flows w s xs) :
    Calls Try.prog 3 #[.slice s.a s.len s.cap, .agg f.cells.toArray, .int .i64 i] w fun e w' => e = .returned (.bool true) ∧ Fr noB w w' := by
  obtain ⟨a, len, cap⟩ := s
  have hl : len = xs.length := hs.1
  have hm : len ≤ maxLen := hs.2.1
  unfold maxLen at hm
  have Hs := hide hs; have Hl := hide hl
  clear hs hl
  go_enter Try.func3, Try.ntmps3
  go_upto_region 1 with (fail)
  refine wp_gen (fun W => Blk W w.heap.size f.cells.toArray 29 ∧ Fr noB w W) ⟨Blk.alloc_new _ _ _, (Fr.refl _ _).alloc _⟩ ?_
  rintro w0 ⟨hb0, hf0⟩
  have c8 : w0.cell? ⟨w.heap.size, 8, none⟩ = some (.string f.routeTo.iface) := hb0.cell 8
  have c11 : w0.cell? ⟨w.heap.size, 11, none⟩ = some (.string f.replyTo.iface) := hb0.cell 11
  have q1 : f.routeTo.iface.size ≤ maxLen := hwf.2.2.2.1.1
  have q2 : f.replyTo.iface.size ≤ maxLen := hwf.2.2.2.2.1.1
  have HB0 := hide hb0; have Hf0 := hide hf0
  clear hb0 hf0
  by_cases h1 : 60 < len
  · go_wp2_with fail
    go_ret
    exact ⟨rfl, Hf0.out⟩
  go_wp2_with fail
  · go_ret
    exact ⟨rfl, Hf0.out⟩
  clear c8 c11 q1 q2
  go_loopw [7] (LenAt w0 xs.length) (fun i _ => len - (intOf i).toNat)
  case atStart => exact ⟨0, Nat.zero_le _, rfl, Fr.refl _ _⟩
  case round =>
    obtain ⟨k, hk, rfl, hf⟩ := hrel
    have Hf := hide hf
    clear hf
    by_cases hlt : k < len
    · have hk2 : k < xs.length := by have := Hl.out; omega
      have hx : xs[k]? = some xs[k] := List.getElem?_eq_getElem hk2
      obtain ⟨b, o, rfl, hb, hc, hwfx⟩ := SlOf.at (SlOf.fr Hs.out (Hf0.out.tr Hf.out) (fun _ _ h => h) (fun _ h => h)) hx
      generalize xs[k] = x at *
      have hmul : ((k : Int) * 14).toNat = k * 14 := by omega
      have q1 : x.routeTo.iface.size ≤ maxLen := hwfx.2.2.2.1.1
      have q2 : x.replyTo.iface.size ≤ maxLen := hwfx.2.2.2.2.1.1
      have c1 : ∀ z : Grow wr, z.v.cell? ⟨b, o + k * 14 + 8, none⟩ = some (.string x.routeTo.iface) := fun z => (hc.fr z.fr (fun h => h)) 8 _ rfl
      have c2 : ∀ z : Grow wr, z.v.cell? ⟨b, o + k * 14 + 11, none⟩ = some (.string x.replyTo.iface) := fun z => (hc.fr z.fr (fun h => h)) 11 _ rfl
      clear hx hc hwfx
      go_upto_region 6 with (fail)
      refine wp_region_mix (fun W => ∃ z : Grow wr, W = z.v) (by kernel_rfl) (by kernel_rfl) ⟨⟨_, (Fr.refl _ _).drew⟩, rfl⟩ ?_
      repeat (first | (refine wpMix_skip rfl ?_; simp only [Act.put, List.setIfInBounds_toArray, List.set_cons_succ, List.set_cons_zero]) | (refine wpMix_calm rfl rfl (fun K hK => ?_); go_big_quiet_op; refine hK _ ?_; clear hK K))
      refine wpMix_nil ?_
      clear c1 c2 q1 q2
      go_wp2_with fail
      · go_ret
        exact ⟨rfl, (Hf0.out.tr Hf.out).drew⟩
      · go_roundw
        case rel => exact ⟨k + 1, by have := Hl.out; omega, by go_num, Hf.out.drew⟩
        case measure => simp [intOf]; omega
    · go_wp2_with fail
      clear hlt hk
      refine (flows_new 64 _).mono ?_
      rintro e w2 ⟨rfl, ht, hf2⟩
      have HO := hide (show One wr w2 [] (capF 64) (wr.heap.size + 1) from ⟨hf2, _, ht, fun b hb => by have := hb.1; omega⟩)
      have HBr := hide (HB0.out.fr Hf.out (fun h => h))
      have Hfr := hide (Hf0.out.tr Hf.out)
      have hwr := hide (show w.heap.size < wr.heap.size from HBr.out.lt)
      clear ht hf2
      obtain ⟨g, hg⟩ : ∃ g, wr.heap.size + 1 = g := ⟨_, rfl⟩
      obtain ⟨wb, hwb⟩ : ∃ wb : World, wb = wr := ⟨_, rfl⟩
      rw [hg] at HO
      rw [hg]
      rw [← hwb] at HO HBr Hfr hwr
      clear hg hwb
      generalize capF 64 = mo at *
      go_wp2_with fail
      go_loopw [9] (FullAt wb xs.length mo g) (fun i _ => len - (intOf i).toNat)
      case atStart => exact ⟨0, [], Nat.zero_le _, rfl, HO.out⟩
      case round =>
        obtain ⟨j, fl, hj, rfl, ho⟩ := hrel
        have Ho := hide ho
        clear ho HO Hf
        obtain ⟨hfb, F, ht, hF⟩ := Ho.out
        have Hfb := hide hfb; have Ht := hide ht; have HF := hide hF
        have hlen : fl.length ≤ 64 := by have := ht.len; have := ht.most64; omega
        have Hwfs := hide ht.wf; have HFl := hide ht.lt
        clear hfb ht hF
        by_cases hlt : j < len
        · have hj2 : j < xs.length := by have := Hl.out; omega
          have hx : xs[j]? = some xs[j] := List.getElem?_eq_getElem hj2
          obtain ⟨b, o, rfl, hb, hc, hwfx⟩ := SlOf.at (SlOf.fr Hs.out (Hfr.out.tr Hfb.out) (fun _ _ h => h) (fun _ h => h)) hx
          generalize xs[j] = x at *
          have hmul : ((j : Int) * 14).toNat = j * 14 := by omega
          have Hc := hide hc; have Hwfx := hide hwfx
          clear hx hc hwfx hj
          have hc3 : CellsAt wr b (o + j * 14) x.cells := Hc.out
          go_wp2_with (refine wpList_load_at rfl 29 _ rfl _ _ rfl (FlowM.cells _) (by (repeat (first | assumption | exact cells_new _ _ _ (by simp) | refine CellsAt.alloc ?_ _ | refine CellsAt.drew ?_ | refine CellsAt.drewN ?_ _))) _ Try.underlying29 rfl (by kernel_rfl) ?_)
          clear hc3
          refine (flows_add _ F g fl _ Ht.out x Hwfx.out).mono ?_
          rintro e w4 ⟨rfl, t4, f4⟩
          have HO4 := hide (one_step Hfb.out HF.out t4 f4)
          clear t4 f4
          go_wp2_with fail
          go_roundw
          case rel => exact ⟨j + 1, _, by have := Hl.out; omega, by go_num, HO4.out⟩
          case measure => simp [intOf]; omega
        · have HB1 := hide (HBr.out.fr Hfb.out (fun h => h))
          go_wp2_with fail
          refine (flows_list _ F g fl _ Ht.out).mono ?_
          rintro e w3 ⟨⟨a3, l3, c3⟩, rfl, n3, f3⟩
          have hl3 : l3 = fl.length := n3.1.1
          have F3 := hide f3; have HL3 := hide hl3; have N3 := hide n3; have HB3 := hide (HB1.out.fr f3 (fun h => h))
          have Ht3 := hide (Ht.out.frN f3)
          clear n3 f3 hl3
          by_cases hz : l3 = 0
          · have hfl : fl = [] := List.eq_nil_of_length_eq_zero (by have := HL3.out; omega)
            subst hfl
            have hcf : CellsAt w3 w.heap.size 0 f.cells := HB3.out.cells
            subst hz
            go_wp2_with (refine wpList_load_at rfl 29 _ rfl _ _ rfl (FlowM.cells _) (by (repeat (first | assumption | exact cells_new _ _ _ (by simp) | refine CellsAt.alloc ?_ _ | refine CellsAt.drew ?_ | refine CellsAt.drewN ?_ _))) _ Try.underlying29 rfl (by kernel_rfl) ?_)
            clear hcf
            refine (flows_put _ F g [] _ Ht3.out f hwf).mono ?_
            rintro e w4 ⟨rfl, t4, f4⟩
            have HO4 := hide (one_step (Hfb.out.tr F3.out) HF.out t4 f4)
            have T4 := hide t4
            clear t4 f4
            rw [show (putF [] f).ok = false from rfl]
            go_wp2_with fail
            refine (flows_len _ _ g [] _ T4.out).mono ?_
            rintro e w' ⟨rfl, rfl⟩
            go_wp2_with fail
            refine (law_known _).mono ?_
            rintro e w8 ⟨rfl, f8⟩
            have Hf8 := hide f8
            clear f8
            go_wp2_with fail
            go_ret
            exact ⟨rfl, (Hfr.out.tr HO4.out.1).tr Hf8.out⟩
          · obtain ⟨n, hn, hne⟩ := mod_nat i l3 (by omega)
            have hn2 : n < fl.length := by have := HL3.out; omega
            have hx : fl[n]? = some fl[n] := List.getElem?_eq_getElem hn2
            obtain ⟨gs, rfl, _, hcx, _⟩ := own_at N3.out.1 FlowM.length hx
            have hwfx : fl[n].wf := Hwfs.out _ (List.getElem_mem hn2)
            have HP := hide (put_at Ht.out.keys hx f)
            generalize fl[n] = x at *
            have hz' : ¬ (l3 : Int) = 0 := by omega
            have hm3 : l3 ≤ 64 := by have := HL3.out; omega
            have Hx := hide hx
            go_upto_region 19 with (fail)
            have hkx := key_of_flow hcx
            have hmul : ((n : Int) * 14).toNat = n * 14 := by omega
            clear hne hx hcx hz
            go_upto_region 20 with (first | (refine wpList_load_at rfl 25 _ rfl _ _ rfl (KeyM.cells _) (by (repeat (first | assumption | exact cells_new _ _ _ (by simp) | refine CellsAt.alloc ?_ _ | refine CellsAt.drew ?_ | refine CellsAt.drewN ?_ _))) _ Try.underlying25 rfl (by kernel_rfl) ?_) | (refine wpList_store_sub rfl 25 (.tmp 94) (.tmp 93) rfl w.heap.size 0 f.cells.toArray 29 x.key.cells rfl rfl HB3.out (by simp [FlowM.cells, KeyM.cells]) (by kernel_rfl) (fun u hu => List.all_eq_true.1 x.key.one u hu) ?_; intro v1 hb4 hf4 hs4; have HB4 := hide hb4; have Hf4 := hide hf4; clear hb4 hf4 hs4))
            simp only [Act.put, List.setIfInBounds_toArray, List.set_cons_succ, List.set_cons_zero]
            have hb4 : Blk v1 w.heap.size (rekey f x.key).cells.toArray 29 := by have := HB4.out; rw [List.toList_toArray, rekey_cells] at this; exact this
            have Hf14 := hide (show Fr (oneB w.heap.size) w3 v1 from Hf4.out)
            have hbn : ∀ b, F b → ¬ oneB w.heap.size b := fun b hb e => by unfold oneB at e; subst e; have := HF.out _ hb; have := hwr.out; omega
            have Ht4 := hide (Ht3.out.fr Hf14.out hbn)
            have N4 := hide (N3.out.frS Hf14.out (fun b hb e => by unfold oneB at e; subst e; have := N3.out.2 _ hb; have := hwr.out; have := Hfb.out.size; omega))
            have Hb4 := hide hb4
            have hcf := hb4.cells
            clear hb4 hkx
            go_wp2_with (refine wpList_load_at rfl 29 _ rfl _ _ rfl (FlowM.cells _) (by (repeat (first | assumption | exact cells_new _ _ _ (by simp) | refine CellsAt.alloc ?_ _ | refine CellsAt.drew ?_ | refine CellsAt.drewN ?_ _))) _ Try.underlying29 rfl (by kernel_rfl) ?_)
            clear hcf
            refine (flows_put _ F g fl _ Ht4.out (rekey f x.key) ⟨hwfx.1, hwf.2⟩).mono ?_
            rw [HP.out]
            rintro e w4 ⟨rfl, t4, f4⟩
            have T4 := hide t4
            have N5 := hide (N4.out.frS f4 (fun b hb h => by have := N3.out.2 b hb; have := HFl.out b h; omega))
            have Hb5 := hide (Hb4.out.fr f4 (fun h => hbn _ h rfl))
            have hsub : ∀ b, gr F v1 w4 b → wb.heap.size ≤ b := fun b hb => by
              rcases hb with hb | hb
              · exact HF.out b hb
              · have := Hfb.out.size; have := F3.out.size; have := Hf14.out.size; omega
            have Hfin := hide (show Fr noB w w4 from by
              refine Fr.trans (Fr.trans ((Hfr.out.tr Hfb.out).tr F3.out) Hf14.out (U := noB) (fun _ _ h => h) (fun b hb e => ?_)) f4 (fun _ _ h => h) (fun b hb h => ?_)
              · unfold oneB at e; omega
              · have := HF.out b h; have := hwr.out; omega)
            clear t4 f4
            go_wp2_with fail
            refine (flows_list _ _ g _ _ T4.out).mono ?_
            rintro e w5 ⟨⟨a5, l5, c5⟩, rfl, n5, f5⟩
            have hl5 : l5 = fl.length := by have h := n5.1.1; rw [List.length_set] at h; exact h
            have hl53 : l5 = l3 := hl5.trans HL3.out.symm
            have N55 := hide n5; have N35 := hide (N5.out.fr f5); have Hb55 := hide (Hb5.out.fr f5 (fun h => h)); have F5 := hide (Hfin.out.tr f5)
            subst hl53
            have HL5 := hide hl5
            clear n5 f5 hl5
            go_wp2_with fail
            go_loopw [14] (LenAt w5 l5) (fun i _ => l5 - (intOf i).toNat)
            case atStart => exact ⟨0, Nat.zero_le _, rfl, Fr.refl _ _⟩
            case round =>
              obtain ⟨m, hm', rfl, hfm⟩ := hrel
              have Hfm := hide hfm
              clear hfm
              by_cases hlt : m < l5
              · have hmf : m < fl.length := by have := HL5.out; omega
                have hxs : (fl.set n (rekey f x.key))[m]? = some ((fl.set n (rekey f x.key))[m]'(by rw [List.length_set]; exact hmf)) := List.getElem?_eq_getElem _
                have hxa : fl[m]? = some fl[m] := List.getElem?_eq_getElem hmf
                obtain ⟨gn, hgn, _, hcn, _⟩ := own_at (N55.out.1.fr Hfm.out (fun _ _ h => h)) FlowM.length hxs
                obtain ⟨ga, hga, _, hca, _⟩ := own_at (N35.out.1.fr Hfm.out (fun _ _ h => h)) FlowM.length hxa
                simp only [Option.some.injEq, Addr.mk.injEq, and_true] at hga
                subst hga
                simp only at hgn
                subst hgn
                have hcb : CellsAt wr w.heap.size 0 (rekey f x.key).cells := (Hb55.out.fr Hfm.out (fun h => h)).cells
                have hmul2 : ((m : Int) * 14).toNat = m * 14 := by omega
                by_cases hmn : m = n
                · have e1 : (fl.set n (rekey f x.key))[m]'(by rw [List.length_set]; exact hmf) = rekey f x.key := by subst hmn; simp
                  rw [e1] at hcn
                  generalize rekey f x.key = y at *
                  clear hxs hxa e1 hca
                  subst hmn
                  go_upto_region 27 with (fail)
                  refine wp_region_mix (fun W => ∃ z : Grow wr, W = z.v) (by kernel_rfl) (by kernel_rfl) (inGrow (Fr.refl _ _).drew) ?_
                  iterate 7 (first | (refine wpMix_skip rfl ?_; simp only [Act.put, List.setIfInBounds_toArray, List.set_cons_succ, List.set_cons_zero]) | (refine wpMix_calm rfl rfl (fun K hK => ?_); go_big_quiet_op; refine hK _ ?_; clear hK K))
                  (refine wpMix_load_atw rfl 29 (.tmp 121) rfl _ _ rfl (FlowM.cells _) (fun W hW => by obtain ⟨z, rfl⟩ := hW; exact CellsAt.fr (by (repeat (first | assumption | exact cells_new _ _ _ (by simp) | refine CellsAt.alloc ?_ _ | refine CellsAt.drew ?_ | refine CellsAt.drewN ?_ _))) z.fr (fun h => h)) _ Try.underlying29 rfl (by kernel_rfl) ?_; simp only [Act.put, List.setIfInBounds_toArray, List.set_cons_succ, List.set_cons_zero])
                  (refine wpMix_load_atw rfl 29 (.tmp 4) rfl _ _ rfl (FlowM.cells _) (fun W hW => by obtain ⟨z, rfl⟩ := hW; exact CellsAt.fr (by (repeat (first | assumption | exact cells_new _ _ _ (by simp) | refine CellsAt.alloc ?_ _ | refine CellsAt.drew ?_ | refine CellsAt.drewN ?_ _))) z.fr (fun h => h)) _ Try.underlying29 rfl (by kernel_rfl) ?_; simp only [Act.put, List.setIfInBounds_toArray, List.set_cons_succ, List.set_cons_zero])
                  refine wpMix_eqs rfl true 29 (.tmp 122) (.tmp 123) rfl y.cells.toArray y.cells.toArray rfl rfl true (by kernel_rfl) (fun w => by rw [flow_equal, decide_eq_true rfl]) ?_
                  simp only [Act.put, List.setIfInBounds_toArray, List.set_cons_succ, List.set_cons_zero]
                  clear hcn hcb
                  repeat (first | (refine wpMix_skip rfl ?_; simp only [Act.put, List.setIfInBounds_toArray, List.set_cons_succ, List.set_cons_zero]) | (refine wpMix_calm rfl rfl (fun K hK => ?_); go_big_quiet_op; refine hK _ ?_; clear hK K))
                  refine wpMix_nil ?_
                  go_wp2_with fail
                  go_roundw
                  case rel => exact ⟨m + 1, by omega, by go_num, Hfm.out.drew⟩
                  case measure => simp [intOf]; omega
                · have e1 : (fl.set n (rekey f x.key))[m]'(by rw [List.length_set]; exact hmf) = fl[m] := by rw [List.getElem_set_ne (fun e => hmn e.symm)]
                  rw [e1] at hcn
                  have g1 : decide ((m : Int) = (n : Int)) = false := by simp; omega
                  have g1' : ((m : Int) == (n : Int)) = false := by simp; omega
                  have g2 : ((m : Int) != (n : Int)) = true := by simp; omega
                  have g3 : decide (m = n) = false := by simp; omega
                  generalize fl[m] = y at *
                  clear hxs hxa e1 hcb
                  go_upto_region 27 with (fail)
                  refine wp_region_mix (fun W => ∃ z : Grow wr, W = z.v) (by kernel_rfl) (by kernel_rfl) (inGrow (Fr.refl _ _).drew) ?_
                  iterate 19 (first | (refine wpMix_skip rfl ?_; simp only [Act.put, List.setIfInBounds_toArray, List.set_cons_succ, List.set_cons_zero]) | (refine wpMix_calm rfl rfl (fun K hK => ?_); go_big_quiet_op; refine hK _ ?_; clear hK K))
                  (refine wpMix_load_atw rfl 29 (.tmp 133) rfl _ _ rfl (FlowM.cells _) (fun W hW => by obtain ⟨z, rfl⟩ := hW; exact CellsAt.fr (by (repeat (first | assumption | exact cells_new _ _ _ (by simp) | refine CellsAt.alloc ?_ _ | refine CellsAt.drew ?_ | refine CellsAt.drewN ?_ _))) z.fr (fun h => h)) _ Try.underlying29 rfl (by kernel_rfl) ?_; simp only [Act.put, List.setIfInBounds_toArray, List.set_cons_succ, List.set_cons_zero])
                  iterate 3 (first | (refine wpMix_skip rfl ?_; simp only [Act.put, List.setIfInBounds_toArray, List.set_cons_succ, List.set_cons_zero]) | (refine wpMix_calm rfl rfl (fun K hK => ?_); go_big_quiet_op; refine hK _ ?_; clear hK K))
                  (refine wpMix_load_atw rfl 29 (.tmp 137) rfl _ _ rfl (FlowM.cells _) (fun W hW => by obtain ⟨z, rfl⟩ := hW; exact CellsAt.fr (by (repeat (first | assumption | exact cells_new _ _ _ (by simp) | refine CellsAt.alloc ?_ _ | refine CellsAt.drew ?_ | refine CellsAt.drewN ?_ _))) z.fr (fun h => h)) _ Try.underlying29 rfl (by kernel_rfl) ?_; simp only [Act.put, List.setIfInBounds_toArray, List.set_cons_succ, List.set_cons_zero])
                  refine wpMix_eqs rfl true 29 (.tmp 134) (.tmp 138) rfl y.cells.toArray y.cells.toArray rfl rfl true (by kernel_rfl) (fun w => by rw [flow_equal, decide_eq_true rfl]) ?_
                  simp only [Act.put, List.setIfInBounds_toArray, List.set_cons_succ, List.set_cons_zero]
                  clear hcn hca
                  repeat (first | (refine wpMix_skip rfl ?_; simp only [Act.put, List.setIfInBounds_toArray, List.set_cons_succ, List.set_cons_zero]) | (refine wpMix_calm rfl rfl (fun K hK => ?_); go_big_quiet_op; refine hK _ ?_; clear hK K))
                  refine wpMix_nil ?_
                  clear g1 g1' g2 g3
                  go_wp2_with fail
                  go_roundw
                  case rel => exact ⟨m + 1, by omega, by go_num, Hfm.out.drew⟩
                  case measure => simp [intOf]; omega
              · go_wp2_with fail
                refine (law_known _).mono ?_
                rintro e w8 ⟨rfl, f8⟩
                have Hf8 := hide (Hfm.out.tr f8)
                clear f8
                go_wp2_with fail
                go_ret
                exact ⟨rfl, F5.out.tr Hf8.out⟩
end Go.Proofs.Ytjfjpibjjliagaa
