/- The law FlowsFull, walked: it returns true. -/
import Derived.Test.YtjfjpibjjliagaaFlowAct
namespace Go.Proofs.Ytjfjpibjjliagaa
open Go.RowKit Go.BigFrame
set_option linter.unusedSimpArgs false
set_option linter.unusedVariables false
attribute [local irreducible] wpMix wpAnyG

/-- The program's table, in blocks younger than wb. -/
def One (wb w : World) (fl : List FlowM) (most : Int) (g : Nat) : Prop := Fr noB wb w ∧ ∃ F, Tab w F g fl most ∧ ∀ b, F b → wb.heap.size ≤ b
theorem One.frN {wb w w' : World} {fl : List FlowM} {most : Int} {g : Nat} (h : One wb w fl most g) (hw : Fr noB w w') : One wb w' fl most g := by
  obtain ⟨h1, F, h2, h3⟩ := h
  exact ⟨h1.tr hw, F, h2.frN hw, h3⟩
theorem one_step {wb w w1 : World} {fl' : List FlowM} {most : Int} {g : Nat} {F : Nat → Prop} (h1 : Fr noB wb w) (h5 : ∀ b, F b → wb.heap.size ≤ b) (t1 : Tab w1 (gr F w w1) g fl' most) (f1 : Fr F w w1) : One wb w1 fl' most g := by
  have s0 := h1.size
  refine ⟨Fr.trans h1 f1 (fun _ _ h => h) (fun b hb hF => by have := h5 b hF; omega), _, t1, fun b hb => ?_⟩
  rcases hb with hb | hb
  · exact h5 b hb
  · omega
theorem add_len {most : Int} {fl : List FlowM} (h : (fl.length : Int) ≤ most) (f : FlowM) : ((addF most fl f).l.length : Int) ≤ most := by
  unfold addF
  split
  · exact h
  · split
    · exact h
    · simp; omega
theorem add_same {most : Int} {fl : List FlowM} {f : FlowM} : ((addF most fl f).e = 0) ∨ ((addF most fl f).e ≠ 0 ∧ (addF most fl f).l = fl) := by
  unfold addF
  split
  · exact .inr ⟨by simp, rfl⟩
  · split
    · exact .inr ⟨by simp, rfl⟩
    · exact .inl rfl
def LenAt (w0 : World) (n : Nat) (i : Value) (wr : World) : Prop := ∃ k : Nat, k ≤ n ∧ i = .int .i64 k ∧ Fr noB w0 wr
def FullAt (wb : World) (n : Nat) (most : Int) (g : Nat) (i : Value) (wr : World) : Prop := ∃ (k : Nat) (fl : List FlowM), k ≤ n ∧ i = .int .i64 k ∧ One wb wr fl most g

set_option maxHeartbeats 1000000 in
theorem len_part (n : Nat) (now : Int) (fl : List FlowM) : (goneF now fl).length + (stayF now fl).length = fl.length := by
  unfold goneF stayF
  induction fl with
  | nil => rfl
  | cons f fl ih => cases h : dueB now f <;> simp [List.filter_cons, h] <;> omega

set_option maxRecDepth 100000 in
set_option maxHeartbeats 4000000 in
theorem law_full (most : Int) (s : SlV) (xs : List FlowM) (now : Int) (w : World) (hs : Flows w s xs) :
    Calls Try.prog 4 #[.int .i64 most, .slice s.a s.len s.cap, .int .i64 now] w fun e w' => e = .returned (.bool true) ∧ Fr noB w w' := by
  have hmn := run_min_int Try.prog
  obtain ⟨a, len, cap⟩ := s
  have hl : len = xs.length := hs.1
  have hm : len ≤ maxLen := hs.2.1
  unfold maxLen at hm
  have Hs := hide hs; have Hl := hide hl
  clear hs hl
  by_cases h1 : most < 0
  · go_enter Try.func4, Try.ntmps4
    go_wp2_with fail
    go_ret
    exact ⟨rfl, Fr.refl _ _⟩
  by_cases h2 : 70 < most
  · go_enter Try.func4, Try.ntmps4
    go_wp2_with fail
    go_ret
    exact ⟨rfl, Fr.refl _ _⟩
  by_cases h3 : 100 < len
  · go_enter Try.func4, Try.ntmps4
    go_wp2_with fail
    go_ret
    exact ⟨rfl, Fr.refl _ _⟩
  go_enter Try.func4, Try.ntmps4
  go_wp2_with fail
  go_loopw [7] (LenAt w xs.length) (fun i _ => len - (intOf i).toNat)
  case atStart => exact ⟨0, Nat.zero_le _, rfl, Fr.refl _ _⟩
  case round =>
    obtain ⟨k, hk, rfl, hf⟩ := hrel
    have Hf := hide hf
    clear hf
    by_cases hlt : k < len
    · have hk2 : k < xs.length := by have := Hl.out; omega
      have hx : xs[k]? = some xs[k] := List.getElem?_eq_getElem hk2
      obtain ⟨b, o, rfl, hb, hc, hwf⟩ := SlOf.at (SlOf.fr Hs.out Hf.out (fun _ _ h => h) (fun _ h => h)) hx
      generalize xs[k] = x at *
      have hmul : ((k : Int) * 14).toNat = k * 14 := by omega
      have q1 : x.routeTo.iface.size ≤ maxLen := hwf.2.2.2.1.1
      have q2 : x.replyTo.iface.size ≤ maxLen := hwf.2.2.2.2.1.1
      have c1 : ∀ z : Grow wr, z.v.cell? ⟨b, o + k * 14 + 8, none⟩ = some (.string x.routeTo.iface) := fun z => (hc.fr z.fr (fun h => h)) 8 _ rfl
      have c2 : ∀ z : Grow wr, z.v.cell? ⟨b, o + k * 14 + 11, none⟩ = some (.string x.replyTo.iface) := fun z => (hc.fr z.fr (fun h => h)) 11 _ rfl
      clear hx hc hwf
      go_upto_region 6 with (fail)
      refine wp_region_mix (fun W => ∃ z : Grow wr, W = z.v) (by kernel_rfl) (by kernel_rfl) ⟨⟨_, (Fr.refl _ _).drew⟩, rfl⟩ ?_
      repeat (first | (refine wpMix_skip rfl ?_; simp only [Act.put, List.setIfInBounds_toArray, List.set_cons_succ, List.set_cons_zero]) | (refine wpMix_calm rfl rfl (fun K hK => ?_); go_big_quiet_op; refine hK _ ?_; clear hK K))
      refine wpMix_nil ?_
      clear c1 c2 q1 q2
      go_wp2_with fail
      · go_ret
        exact ⟨rfl, Hf.out.drew⟩
      · go_roundw
        case rel => exact ⟨k + 1, by have := Hl.out; omega, by go_num, Hf.out.drew⟩
        case measure => simp [intOf]; omega
    · go_wp2_with fail
      clear hlt hk
      refine (flows_new most _).mono ?_
      rintro e w2 ⟨rfl, ht, hf2⟩
      have HO := hide (show One w w2 [] (capF most) (wr.heap.size + 1) from ⟨Hf.out.tr hf2, _, ht, fun b hb => by have := hb.1; have := Hf.out.size; omega⟩)
      clear ht hf2
      obtain ⟨g, hg⟩ : ∃ g, wr.heap.size + 1 = g := ⟨_, rfl⟩
      rw [hg] at HO
      rw [hg]
      clear hg
      have hcap : capF most = min most 64 := by unfold capF; omega
      rw [hcap] at HO
      clear hcap
      go_wp2_with fail
      go_loopw [9] (FullAt w xs.length (min most 64) g) (fun i _ => len - (intOf i).toNat)
      case atStart => exact ⟨0, [], Nat.zero_le _, rfl, HO.out⟩
      case round =>
        obtain ⟨j, fl, hj, rfl, ho⟩ := hrel
        have Ho := hide ho
        clear ho HO Hf
        obtain ⟨hfb, F, ht, hF⟩ := Ho.out
        have Hfb := hide hfb; have Ht := hide ht; have HF := hide hF
        have hlen : fl.length ≤ 64 := by have := ht.len; have := ht.most64; omega
        have Hwfs := hide ht.wf; have HFl := hide ht.lt
        clear hfb ht hF
        by_cases hlt : j < len
        · have hj2 : j < xs.length := by have := Hl.out; omega
          have hx : xs[j]? = some xs[j] := List.getElem?_eq_getElem hj2
          obtain ⟨b, o, rfl, hb, hc, hwf⟩ := SlOf.at (SlOf.fr Hs.out Hfb.out (fun _ _ h => h) (fun _ h => h)) hx
          generalize xs[j] = x at *
          have hmul : ((j : Int) * 14).toNat = j * 14 := by omega
          have Hc := hide hc; have Hwf := hide hwf
          clear hx hc hwf hj
          go_wp2_with fail
          refine (flows_list _ F g fl _ Ht.out).mono ?_
          rintro e w3 ⟨s3, rfl, n3, f3⟩
          have N3 := hide n3; have F3 := hide f3
          have hc3 : CellsAt w3 b (o + j * 14) x.cells := Hc.out.fr f3 (fun h => h)
          clear n3 f3
          go_wp2_with (refine wpList_load_at rfl 29 _ rfl _ _ rfl (FlowM.cells _) (by (repeat (first | assumption | exact cells_new _ _ _ (by simp) | refine CellsAt.alloc ?_ _ | refine CellsAt.drew ?_ | refine CellsAt.drewN ?_ _))) _ Try.underlying29 rfl (by kernel_rfl) ?_)
          clear hc3
          refine (flows_add _ F g fl _ (Ht.out.frN F3.out) x Hwf.out).mono ?_
          rintro e w4 ⟨rfl, t4, f4⟩
          have T4 := hide t4
          have HO4 := hide (one_step (Hfb.out.tr F3.out) HF.out t4 f4)
          have R4 := hide ((N3.out.frS f4 (fun b hb h => by have := N3.out.2 b hb; have := HFl.out b h; omega)).slof FlowM.length Hwfs.out)
          have hal := hide (add_len (most := min most 64) (fl := fl) (by have := Ht.out.len; omega) x)
          clear t4 f4
          rcases add_same (most := min most 64) (fl := fl) (f := x) with he | ⟨he, hsame⟩
          · rw [he]
            clear he
            generalize (addF (min most 64) fl x).l = fl' at *
            go_wp2_with fail
            refine (flows_len _ _ g fl' _ T4.out).mono ?_
            rintro e w' ⟨rfl, rfl⟩
            have hle : (fl'.length : Int) ≤ min most 64 := hal.out
            have hle2 : decide (min most 64 < (fl'.length : Int)) = false := by simp; omega
            go_wp2_with fail
            go_roundw
            case rel => exact ⟨j + 1, fl', by have := Hl.out; omega, by go_num, HO4.out⟩
            case measure => simp [intOf]; omega
          · have Hsame := hide hsame
            clear hsame
            generalize (addF (min most 64) fl x).e = ec at *
            go_wp2_with fail
            refine (flows_list _ _ g _ _ T4.out).mono ?_
            rintro e w5 ⟨s5, rfl, n5, f5⟩
            have N5 := hide n5; have F5 := hide f5
            clear n5 f5
            go_wp2_with fail
            refine (law_rows s5 _ s3 fl _ (N5.out.slof FlowM.length (by rw [Hsame.out]; exact Hwfs.out)) (SlOf.fr R4.out F5.out (fun _ _ h => h) (fun _ h => h))).mono ?_
            rintro e w6 ⟨rfl, f6⟩
            rw [decide_eq_true Hsame.out]
            have F6 := hide (F5.out.tr f6)
            clear f6
            go_wp2_with fail
            refine (flows_len _ _ g _ _ (T4.out.frN F6.out)).mono ?_
            rintro e w' ⟨rfl, rfl⟩
            generalize (addF (min most 64) fl x).l = fl' at *
            have hle : (fl'.length : Int) ≤ min most 64 := hal.out
            go_wp2_with fail
            go_roundw
            case rel => exact ⟨j + 1, fl', by have := Hl.out; omega, by go_num, HO4.out.frN F6.out⟩
            case measure => simp [intOf]; omega
        · go_wp2_with fail
          clear hlt hj
          refine (flows_list _ F g fl _ Ht.out).mono ?_
          rintro e w3 ⟨⟨a3, l3, c3⟩, rfl, n3, f3⟩
          have hl3 : l3 = fl.length := n3.1.1
          have F3 := hide f3; have HL3 := hide hl3
          clear n3 f3 hl3
          go_wp2_with fail
          refine (flows_expire _ F g fl _ (Ht.out.frN F3.out) now).mono ?_
          rintro e w4 ⟨⟨a4, l4, c4⟩, rfl, n4, t4, f4⟩
          have hl4 : l4 = (goneF now fl).length := n4.1.1
          have HO4 := hide (one_step (Hfb.out.tr F3.out) HF.out t4 f4)
          have T4 := hide t4; have N4 := hide n4; have HL4 := hide hl4
          have hg4 : (goneF now fl).length ≤ 64 := Nat.le_trans (List.length_filter_le _ _) hlen
          have hg5 : (stayF now fl).length ≤ 64 := Nat.le_trans (List.length_filter_le _ _) hlen
          clear n4 t4 f4 hl4
          go_wp2_with fail
          refine (flows_list _ _ g _ _ T4.out).mono ?_
          rintro e w5 ⟨⟨a5, l5, c5⟩, rfl, n5, f5⟩
          have hl5 : l5 = (stayF now fl).length := n5.1.1
          have F5 := hide (HO4.out.1.tr f5); have N5 := hide n5; have HL5 := hide hl5; have N45 := hide (N4.out.fr f5)
          have hm4 : l4 ≤ 64 := by have := HL4.out; omega
          have hm5 : l5 ≤ 64 := by omega
          have hm3 : l3 ≤ 64 := by have := HL3.out; omega
          have hsum : l4 + l5 = l3 := by have := HL4.out; have := HL3.out; have := len_part 0 now fl; omega
          have Hsum := hide hsum
          clear n5 f5 hl5 hsum HO4 T4
          go_wp2_with fail
          go_loopw [15] (LenAt w5 l4) (fun i _ => l4 - (intOf i).toNat)
          case atStart => exact ⟨0, Nat.zero_le _, rfl, Fr.refl _ _⟩
          case round =>
            obtain ⟨m, hm', rfl, hfm⟩ := hrel
            have Hfm := hide hfm
            clear hfm
            by_cases hlt : m < l4
            · have hm2 : m < (goneF now fl).length := by have := HL4.out; omega
              have hx : (goneF now fl)[m]? = some (goneF now fl)[m] := List.getElem?_eq_getElem hm2
              have hdue : dueB now (goneF now fl)[m] = true := (List.mem_filter.1 (List.getElem_mem hm2)).2
              obtain ⟨gs, rfl, _, hcx, _⟩ := own_at (N45.out.1.fr Hfm.out (fun _ _ h => h)) FlowM.length hx
              generalize (goneF now fl)[m] = x at *
              have hmul : ((m : Int) * 14).toNat = m * 14 := by omega
              have c6 : wr.cell? ⟨gs, m * 14 + 6, none⟩ = some (.int .i64 x.due) := hcx 6 _ rfl
              have hd1 : x.due ≤ now := of_decide_eq_true hdue
              clear hx hcx hdue
              go_wp2_with fail
              go_roundw
              case rel => exact ⟨m + 1, by omega, by go_num, Hfm.out⟩
              case measure => simp [intOf]; omega
            · go_wp2_with fail
              clear hlt hm'
              go_loopw [16] (LenAt w5 l5) (fun i _ => l5 - (intOf i).toNat)
              case atStart => exact ⟨0, Nat.zero_le _, rfl, Hfm.out⟩
              case round =>
                obtain ⟨m2, hm2', rfl, hfm2⟩ := hrel
                have Hfm2 := hide hfm2
                clear hfm2
                by_cases hlt : m2 < l5
                · have hm2 : m2 < (stayF now fl).length := by have := HL5.out; omega
                  have hx : (stayF now fl)[m2]? = some (stayF now fl)[m2] := List.getElem?_eq_getElem hm2
                  have hdue : dueB now (stayF now fl)[m2] = false := by have := (List.mem_filter.1 (List.getElem_mem hm2)).2; simpa using this
                  obtain ⟨gs, rfl, _, hcx, _⟩ := own_at (N5.out.1.fr Hfm2.out (fun _ _ h => h)) FlowM.length hx
                  generalize (stayF now fl)[m2] = x at *
                  have hmul : ((m2 : Int) * 14).toNat = m2 * 14 := by omega
                  have c6 : wr.cell? ⟨gs, m2 * 14 + 6, none⟩ = some (.int .i64 x.due) := hcx 6 _ rfl
                  have hd1 : ¬ x.due ≤ now := of_decide_eq_false hdue
                  have hd2 : now < x.due := by omega
                  clear hx hcx hdue hd1
                  go_wp2_with fail
                  go_roundw
                  case rel => exact ⟨m2 + 1, by omega, by go_num, Hfm2.out⟩
                  case measure => simp [intOf]; omega
                · have hs1 : ((l4 : Int) + l5 = l3) := by have := Hsum.out; omega
                  have Hs1 := hide hs1
                  clear hs1 hm2'
                  have hs2 : ((l4 : Int) + (l5 : Int) == (l3 : Int)) = true := by have := Hs1.out; simp; omega
                  have hs3 : l4 + l5 = l3 := Hsum.out
                  subst hs3
                  go_wp2_with fail
                  refine (law_known _).mono ?_
                  rintro e w8 ⟨rfl, f8⟩
                  have Hf8 := hide (Hfm2.out.tr f8)
                  clear f8
                  go_wp2_with fail
                  go_ret
                  exact ⟨rfl, F5.out.tr Hf8.out⟩
end Go.Proofs.Ytjfjpibjjliagaa
