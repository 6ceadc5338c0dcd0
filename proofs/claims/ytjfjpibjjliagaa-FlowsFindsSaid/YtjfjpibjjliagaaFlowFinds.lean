/- The law FlowsFinds, walked: it returns true. -/
import Derived.Test.YtjfjpibjjliagaaFlowPlays
namespace Go.Proofs.Ytjfjpibjjliagaa
open Go.RowKit Go.BigFrame
set_option linter.unusedSimpArgs false
set_option linter.unusedVariables false
attribute [local irreducible] wpMix wpAnyG

theorem turn_turn (k : KeyM) : turnK (turnK k) = k := rfl
theorem turn_eq {a b : KeyM} (h : a = turnK b) : turnK a = b := by subst h; rfl
/-- No two flows are found by one key. -/
def Sep (fl : List FlowM) : Prop := (fl.map (·.key)).Pairwise (fun a b => a ≠ b ∧ turnK a ≠ b)
theorem sep_add {most : Int} {fl : List FlowM} (h : Sep fl) (f : FlowM) : Sep (addF most fl f).l := by
  unfold addF
  split
  · exact h
  · rename_i hno
    split
    · exact h
    · have hk := findF_key (by simpa using hno)
      have hk2 : ∀ x ∈ fl, x.key ≠ turnK f.key := fun x hx e => by
        unfold findF at hno
        have e1 : fl.findIdx? (fun g => decide (g.key = f.key)) = none := by
          rw [List.findIdx?_eq_none_iff]; intro y hy; simpa using hk y hy
        rw [e1] at hno
        simp only at hno
        cases h2 : fl.findIdx? (fun g => decide (g.key = turnK f.key)) with
        | some i => rw [h2] at hno; simp at hno
        | none =>
          rw [List.findIdx?_eq_none_iff] at h2
          have := h2 x hx
          simp [e] at this
      unfold Sep at *
      rw [List.map_append, List.pairwise_append]
      refine ⟨h, by simp, fun a ha b hb => ?_⟩
      obtain ⟨x, hx, rfl⟩ := List.mem_map.1 ha
      simp only [List.map_cons, List.map_nil, List.mem_singleton] at hb
      subst hb
      exact ⟨hk x hx, fun e => hk2 x hx (turn_eq e.symm).symm⟩
theorem sep_put {fl : List FlowM} (h : Sep fl) (f : FlowM) : Sep (putF fl f).l := by
  unfold putF
  cases hi : fl.findIdx? (fun x => decide (x.key = f.key)) with
  | none => exact h
  | some i =>
    obtain ⟨_, x, hx, _, e3⟩ := fidx_some hi
    unfold Sep
    simp only
    rw [keys_set hx e3]
    exact h
theorem sep_stay {now : Int} {fl : List FlowM} (h : Sep fl) : Sep (stayF now fl) := List.Pairwise.sublist (List.Sublist.map _ List.filter_sublist) h
theorem sep_act {most : Int} {fl : List FlowM} (h : Sep fl) (a : ActM) : Sep (actF most fl a) := by
  unfold actF
  split
  · exact sep_add h _
  · split
    · exact sep_put h _
    · split
      · exact sep_stay h
      · exact h
theorem sep_idx {fl : List FlowM} (h : Sep fl) {i : Nat} {f : FlowM} (hx : fl[i]? = some f) : fl.findIdx? (fun g => decide (g.key = f.key)) = some i := by
  obtain ⟨hl, rfl⟩ := List.getElem?_eq_some_iff.1 hx
  rw [List.findIdx?_eq_some_iff_getElem]
  refine ⟨hl, by simp, fun j hj => ?_⟩
  have := List.pairwise_iff_getElem.1 h j i (by simp; omega) (by simpa using hl) hj
  simp only [List.getElem_map] at this
  simpa using this.1
theorem find_at {fl : List FlowM} (h : Sep fl) {i : Nat} {f : FlowM} (hx : fl[i]? = some f) : findF fl f.key = ⟨f, false, true⟩ := by
  unfold findF
  rw [sep_idx h hx]
  simp [List.getD, hx]
theorem find_turn {fl : List FlowM} (h : Sep fl) {i : Nat} {f : FlowM} (hx : fl[i]? = some f) : findF fl (turnK f.key) = ⟨f, !decide (turnK f.key = f.key), true⟩ := by
  by_cases e : turnK f.key = f.key
  · rw [e, find_at h hx]; simp
  · unfold findF
    have hn : fl.findIdx? (fun g => decide (g.key = turnK f.key)) = none := by
      rw [List.findIdx?_eq_none_iff]
      intro x hm
      obtain ⟨j, hj⟩ := List.getElem?_of_mem hm
      obtain ⟨hjl, rfl⟩ := List.getElem?_eq_some_iff.1 hj
      obtain ⟨hil, rfl⟩ := List.getElem?_eq_some_iff.1 hx
      simp only [decide_eq_false_iff_not]
      intro e2
      rcases Nat.lt_trichotomy i j with hij | rfl | hij
      · have := List.pairwise_iff_getElem.1 h i j (by simpa using hil) (by simpa using hjl) hij
        simp only [List.getElem_map] at this
        exact this.2 e2.symm
      · exact e e2.symm
      · have := List.pairwise_iff_getElem.1 h j i (by simpa using hjl) (by simpa using hil) hij
        simp only [List.getElem_map] at this
        exact this.2 (turn_eq e2)
    rw [hn, turn_turn]
    simp only
    rw [sep_idx h hx]
    simp [List.getD, hx, e]
theorem find_out (fl : List FlowM) (k : KeyM) : ((findF fl k).ok = false → findF fl k = ⟨zeroF, false, false⟩) ∧
    ((findF fl k).ok = true → ((findF fl k).back = false ∧ (findF fl k).f.key = k) ∨ ((findF fl k).back = true ∧ (findF fl k).f.key = turnK k ∧ (findF fl k).f.key ≠ k)) := by
  unfold findF
  cases h1 : fl.findIdx? (fun f => decide (f.key = k)) with
  | some i =>
    obtain ⟨_, f, _, e2, e3⟩ := fidx_some h1
    refine ⟨fun h => by simp at h, fun _ => .inl ⟨rfl, by simp only; rw [e2, e3]⟩⟩
  | none =>
    simp only
    cases h2 : fl.findIdx? (fun f => decide (f.key = turnK k)) with
    | some i =>
      obtain ⟨_, f, hx, e2, e3⟩ := fidx_some h2
      refine ⟨fun h => by simp at h, fun _ => .inr ⟨rfl, by simp only; rw [e2, e3], ?_⟩⟩
      simp only
      rw [e2]
      rw [List.findIdx?_eq_none_iff] at h1
      simpa using h1 f (List.mem_of_getElem? hx)
    | none => simp

/-- The three ways in which a flow is found. -/
theorem find_ways (fl : List FlowM) (k : KeyM) : (findF fl k = ⟨zeroF, false, false⟩) ∨ (∃ f, findF fl k = ⟨f, false, true⟩ ∧ decide (f.key = k) = true ∧ decide (f.key = turnK k) = true) ∨
    (∃ f, findF fl k = ⟨f, false, true⟩ ∧ decide (f.key = k) = true ∧ decide (f.key = turnK k) = false) ∨ (∃ f, findF fl k = ⟨f, true, true⟩ ∧ decide (f.key = k) = false ∧ decide (f.key = turnK k) = true) := by
  obtain ⟨h1, h2⟩ := find_out fl k
  generalize findF fl k = x at *
  obtain ⟨f, back, ok⟩ := x
  cases ok with
  | false => exact .inl (h1 rfl)
  | true =>
    rcases h2 rfl with ⟨hb, hk⟩ | ⟨hb, hk, hn⟩
    · simp only at hb hk
      subst hb
      cases hq : decide (f.key = turnK k) with
      | true => exact .inr (.inl ⟨f, rfl, by simp [hk], hq⟩)
      | false => exact .inr (.inr (.inl ⟨f, rfl, by simp [hk], hq⟩))
    · simp only at hb hk hn
      subst hb
      exact .inr (.inr (.inr ⟨f, rfl, by simp [hn], by simp [hk]⟩))
def SepAt (wb : World) (n : Nat) (most : Int) (g gx : Nat) (i : Value) (wr : World) : Prop := ∃ (k : Nat) (fl : List FlowM), k ≤ n ∧ i = .int .i64 k ∧ Both wb wr fl most g gx ∧ Sep fl
def FndAt (w0 : World) (n : Nat) (i : Value) (wr : World) : Prop := ∃ k : Nat, k ≤ n ∧ i = .int .i64 k ∧ Fr noB w0 wr

set_option maxRecDepth 100000 in
set_option maxHeartbeats 4000000 in
theorem law_finds (s : SlV) (xs : List ActM) (ky : KeyM) (w : World) (hs : Acts w s xs) :
    Calls Try.prog 5 #[.slice s.a s.len s.cap, .agg ky.cells.toArray] w fun e w' => e = .returned (.bool true) ∧ Fr noB w w' := by
  obtain ⟨a, len, cap⟩ := s
  have hl : len = xs.length := hs.1
  have hm : len ≤ maxLen := hs.2.1
  unfold maxLen at hm
  have Hs := hide hs; have Hl := hide hl
  clear hs hl
  go_enter Try.func5, Try.ntmps5
  go_upto_region 1 with (fail)
  refine wp_gen (fun W => CellsAt W w.heap.size 0 ky.cells ∧ Fr noB w W) ⟨by (repeat (first | assumption | exact cells_new _ _ _ (by simp) | refine CellsAt.alloc ?_ _ | refine CellsAt.drew ?_ | refine CellsAt.drewN ?_ _)), (Fr.refl _ _).alloc _⟩ ?_
  rintro w0 ⟨hck, hf0⟩
  have Hck := hide hck; have Hf0 := hide hf0
  clear hck hf0
  go_wp2_with fail
  refine (law_long ⟨a, len, cap⟩ xs _ (SlOf.fr Hs.out Hf0.out (fun _ _ h => h) (fun _ h => h))).mono ?_
  rintro e w1 ⟨b, rfl, hf1⟩
  have Hf1 := hide (Hf0.out.tr hf1); have Hck1 := hide (Hck.out.fr hf1 (fun h => h))
  clear hf1
  cases b with
  | true =>
    go_wp2_with fail
    go_ret
    exact ⟨rfl, Hf1.out⟩
  | false =>
    go_wp2_with fail
    refine (flows_new 40 _).mono ?_
    rintro e w2 ⟨rfl, ht, hf2⟩
    have Ht := hide ht; have Hf2 := hide hf2
    clear ht hf2
    go_wp2_with fail
    refine (doc_new 40 _).mono ?_
    rintro e w3 ⟨rfl, hd, hf3⟩
    have HB := hide (both_new (Fr.refl noB w1) Ht.out Hf2.out hd hf3)
    clear hd hf3 Ht Hf2
    obtain ⟨g, hg⟩ : ∃ g, w1.heap.size + 1 = g := ⟨_, rfl⟩
    obtain ⟨gx, hgx⟩ : ∃ gx, w2.heap.size = gx := ⟨_, rfl⟩
    rw [hg, hgx] at HB
    rw [hg, hgx]
    clear hg hgx
    generalize capF 40 = mo at *
    go_wp2_with fail
    go_loopw [7] (SepAt w1 xs.length mo g gx) (fun i _ => len - (intOf i).toNat)
    case atStart => exact ⟨0, [], Nat.zero_le _, rfl, HB.out, by simp [Sep]⟩
    case round =>
      obtain ⟨k, fl, hk, rfl, hb, hsep⟩ := hrel
      have Hb := hide hb; have Hsep := hide hsep
      clear hb HB hsep
      by_cases hgo : k < len ∧ k < 100
      · obtain ⟨hlt, h100⟩ := hgo
        have hk2 : k < xs.length := by have := Hl.out; omega
        have hx : xs[k]? = some xs[k] := List.getElem?_eq_getElem hk2
        obtain ⟨b, o, rfl, hbw, hc, hwf⟩ := SlOf.at (SlOf.fr Hs.out (Hf1.out.tr Hb.out.1) (fun _ _ h => h) (fun _ h => h)) hx
        generalize xs[k] = x at *
        have hmul : ((k : Int) * 16).toNat = k * 16 := by omega
        have Hc := hide hc; have Hwf := hide hwf
        clear hx hk hwf hc
        have hc2 : CellsAt wr b (o + k * 16) x.cells := Hc.out
        go_wp2_with (refine wpList_load_at rfl 48 _ rfl _ _ rfl (ActM.cells _) (by (repeat (first | assumption | exact cells_new _ _ _ (by simp) | refine CellsAt.alloc ?_ _ | refine CellsAt.drew ?_ | refine CellsAt.drewN ?_ _))) _ Try.underlying48 rfl (by kernel_rfl) ?_)
        clear hc2
        refine (law_act w1 _ fl mo g gx Hb.out x Hwf.out).mono ?_
        rintro e w4 ⟨rfl, hb4⟩
        have Hb4 := hide hb4; have Hs4 := hide (sep_act (most := mo) Hsep.out x)
        clear hb4
        go_wp2_with fail
        go_roundw
        case rel => exact ⟨k + 1, _, by omega, by go_num, Hb4.out, Hs4.out⟩
        case measure => simp [intOf]; omega
      · have hstop : (k < len ∧ ¬ k < 100) ∨ ¬ k < len := by omega
        clear hgo
        obtain ⟨hfb, F, G, ht, _⟩ := Hb.out
        have Ht := hide ht; have Hfb := hide (Hf1.out.tr hfb); have Hckb := hide (Hck1.out.fr hfb (fun h => h))
        have hlen : fl.length ≤ 64 := by have := ht.len; have := ht.most64; omega
        have Hwfs := hide ht.wf
        clear ht hfb Hb
        rcases hstop with ⟨h1, h2⟩ | h1
        all_goals
          go_wp2_with fail
          refine (flows_list _ F g fl mo Ht.out).mono ?_
          rintro e w5 ⟨⟨sa, sl, sc⟩, rfl, n5, f5⟩
          have hsl : sl = fl.length := n5.1.1
          have N5 := hide n5; have Hf5 := hide (Hfb.out.tr f5); have Ht5 := hide (Ht.out.frN f5); have Hck5 := hide (Hckb.out.fr f5 (fun h => h)); have Hsl := hide hsl
          have hmax : sl ≤ 64 := by omega
          clear n5 f5 hsl
          go_wp2_with fail
          go_loopw [9] (FndAt w5 fl.length) (fun i _ => sl - (intOf i).toNat)
          case atStart => exact ⟨0, Nat.zero_le _, rfl, Fr.refl _ _⟩
          case round =>
            obtain ⟨j, hj, rfl, hfj⟩ := hrel
            have Hfj := hide hfj
            clear hfj
            by_cases hlt3 : j < sl
            · have hj2 : j < fl.length := by have := Hsl.out; omega
              have hx : fl[j]? = some fl[j] := List.getElem?_eq_getElem hj2
              have HF1 := hide (find_at Hsep.out hx); have HF2 := hide (find_turn Hsep.out hx)
              obtain ⟨gs, rfl, _, hcx, _⟩ := own_at (N5.out.1.fr Hfj.out (fun _ _ h => h)) FlowM.length hx
              generalize fl[j] = f at *
              have hmul : ((j : Int) * 14).toNat = j * 14 := by omega
              have Hcx := hide hcx
              have hkx := key_of_flow hcx
              clear hx hj hcx h1
              go_wp2_with (refine wpList_load_at rfl 25 _ rfl _ _ rfl (KeyM.cells _) (by (repeat (first | assumption | exact cells_new _ _ _ (by simp) | refine CellsAt.alloc ?_ _ | refine CellsAt.drew ?_ | refine CellsAt.drewN ?_ _))) _ Try.underlying25 rfl (by kernel_rfl) ?_)
              clear hkx
              refine (flows_find _ F g fl mo (Ht5.out.frN Hfj.out) f.key).mono ?_
              rintro e w6 ⟨rfl, f6⟩
              rw [HF1.out]
              unfold foundV
              have Hf6 := hide (Hfj.out.tr f6); have Hcx6 := hide (Hcx.out.fr f6 (fun h => h))
              clear f6
              go_upto_region 16 with (refine wpList_store_new rfl 29 _ _ rfl _ _ (FlowM.cells _) _ rfl rfl (by simp) (by kernel_rfl) rfl (by kernel_rfl) ?_)
              refine wp_gen (fun W => CellsAt W w6.heap.size 0 f.cells ∧ Fr noB w6 W) ⟨by (repeat (first | assumption | exact cells_new _ _ _ (by simp) | refine CellsAt.alloc ?_ _ | refine CellsAt.drew ?_ | refine CellsAt.drewN ?_ _)), (Fr.refl _ _).alloc _⟩ ?_
              rintro w7 ⟨hc7, f7⟩
              have Hc7 := hide hc7; have Hf7 := hide (Hf6.out.tr f7); have Hcx7 := hide (Hcx6.out.fr f7 (fun h => h))
              have hkx := key_of_flow Hcx7.out
              clear hc7 f7
              go_wp2_with (refine wpList_load_at rfl 25 _ rfl _ _ rfl (KeyM.cells _) (by (repeat (first | assumption | exact cells_new _ _ _ (by simp) | refine CellsAt.alloc ?_ _ | refine CellsAt.drew ?_ | refine CellsAt.drewN ?_ _))) _ Try.underlying25 rfl (by kernel_rfl) ?_)
              clear hkx
              refine (ref8_turn f.key _).mono ?_
              rintro e w8 ⟨rfl, f8⟩
              have Hf8 := hide (Hf7.out.tr f8); have Hcx8 := hide (Hcx7.out.fr f8 (fun h => h)); have Hc8 := hide (Hc7.out.fr f8 (fun h => h))
              clear f8
              go_wp2_with fail
              refine (flows_find _ F g fl mo (Ht5.out.frN Hf8.out) (turnK f.key)).mono ?_
              rintro e w9 ⟨rfl, f9⟩
              rw [HF2.out]
              unfold foundV
              have Hf9 := hide (Hf8.out.tr f9); have Hcx9 := hide (Hcx8.out.fr f9 (fun h => h)); have Hc9 := hide (Hc8.out.fr f9 (fun h => h))
              clear f9
              cases htk : decide (turnK f.key = f.key)
              all_goals
                go_upto_region 17 with (refine wpList_store_new rfl 29 _ _ rfl _ _ (FlowM.cells _) _ rfl rfl (by simp) (by kernel_rfl) rfl (by kernel_rfl) ?_)
                refine wp_gen (fun W => CellsAt W w9.heap.size 0 f.cells ∧ CellsAt W w6.heap.size 0 f.cells ∧ CellsAt W gs (j * 14) f.cells ∧ Fr noB w9 W) ⟨by (repeat (first | assumption | exact cells_new _ _ _ (by simp) | refine CellsAt.alloc ?_ _ | refine CellsAt.drew ?_ | refine CellsAt.drewN ?_ _)), Hc9.out.alloc _, Hcx9.out.alloc _, (Fr.refl _ _).alloc _⟩ ?_
                rintro w10 ⟨hg10, hf10, hx10, f10⟩
                have Hf10 := hide (Hf9.out.tr f10)
                have Htk := hide htk
                clear f10 htk
                refine wp_region_mix (fun W => ∃ z : Grow w10, W = z.v) (by kernel_rfl) (by kernel_rfl) (inGrow (Fr.refl _ _).drew) ?_
                iterate 7 (first | (refine wpMix_skip rfl ?_; simp only [Act.put, List.setIfInBounds_toArray, List.set_cons_succ, List.set_cons_zero]) | (refine wpMix_calm rfl rfl (fun K hK => ?_); go_big_quiet_op; refine hK _ ?_; clear hK K))
                (refine wpMix_load_atw rfl 29 (.tmp 10) rfl _ _ rfl (FlowM.cells _) (fun W hW => by obtain ⟨z, rfl⟩ := hW; exact CellsAt.fr (by (repeat (first | assumption | exact cells_new _ _ _ (by simp) | refine CellsAt.alloc ?_ _ | refine CellsAt.drew ?_ | refine CellsAt.drewN ?_ _))) z.fr (fun h => h)) _ Try.underlying29 rfl (by kernel_rfl) ?_; simp only [Act.put, List.setIfInBounds_toArray, List.set_cons_succ, List.set_cons_zero])
                iterate 3 (first | (refine wpMix_skip rfl ?_; simp only [Act.put, List.setIfInBounds_toArray, List.set_cons_succ, List.set_cons_zero]) | (refine wpMix_calm rfl rfl (fun K hK => ?_); go_big_quiet_op; refine hK _ ?_; clear hK K))
                (refine wpMix_load_atw rfl 29 (.tmp 84) rfl _ _ rfl (FlowM.cells _) (fun W hW => by obtain ⟨z, rfl⟩ := hW; exact CellsAt.fr (by (repeat (first | assumption | exact cells_new _ _ _ (by simp) | refine CellsAt.alloc ?_ _ | refine CellsAt.drew ?_ | refine CellsAt.drewN ?_ _))) z.fr (fun h => h)) _ Try.underlying29 rfl (by kernel_rfl) ?_; simp only [Act.put, List.setIfInBounds_toArray, List.set_cons_succ, List.set_cons_zero])
                refine wpMix_eqs rfl true 29 (.tmp 81) (.tmp 85) rfl f.cells.toArray f.cells.toArray rfl rfl true (by kernel_rfl) (fun w => by rw [flow_equal, decide_eq_true rfl]) ?_
                simp only [Act.put, List.setIfInBounds_toArray, List.set_cons_succ, List.set_cons_zero]
                iterate 5 (first | (refine wpMix_skip rfl ?_; simp only [Act.put, List.setIfInBounds_toArray, List.set_cons_succ, List.set_cons_zero]) | (refine wpMix_calm rfl rfl (fun K hK => ?_); go_big_quiet_op; refine hK _ ?_; clear hK K))
                (refine wpMix_load_atw rfl 29 (.tmp 13) rfl _ _ rfl (FlowM.cells _) (fun W hW => by obtain ⟨z, rfl⟩ := hW; exact CellsAt.fr (by (repeat (first | assumption | exact cells_new _ _ _ (by simp) | refine CellsAt.alloc ?_ _ | refine CellsAt.drew ?_ | refine CellsAt.drewN ?_ _))) z.fr (fun h => h)) _ Try.underlying29 rfl (by kernel_rfl) ?_; simp only [Act.put, List.setIfInBounds_toArray, List.set_cons_succ, List.set_cons_zero])
                iterate 3 (first | (refine wpMix_skip rfl ?_; simp only [Act.put, List.setIfInBounds_toArray, List.set_cons_succ, List.set_cons_zero]) | (refine wpMix_calm rfl rfl (fun K hK => ?_); go_big_quiet_op; refine hK _ ?_; clear hK K))
                (refine wpMix_load_atw rfl 29 (.tmp 95) rfl _ _ rfl (FlowM.cells _) (fun W hW => by obtain ⟨z, rfl⟩ := hW; exact CellsAt.fr (by (repeat (first | assumption | exact cells_new _ _ _ (by simp) | refine CellsAt.alloc ?_ _ | refine CellsAt.drew ?_ | refine CellsAt.drewN ?_ _))) z.fr (fun h => h)) _ Try.underlying29 rfl (by kernel_rfl) ?_; simp only [Act.put, List.setIfInBounds_toArray, List.set_cons_succ, List.set_cons_zero])
                refine wpMix_eqs rfl true 29 (.tmp 92) (.tmp 96) rfl f.cells.toArray f.cells.toArray rfl rfl true (by kernel_rfl) (fun w => by rw [flow_equal, decide_eq_true rfl]) ?_
                simp only [Act.put, List.setIfInBounds_toArray, List.set_cons_succ, List.set_cons_zero]
                iterate 5 (first | (refine wpMix_skip rfl ?_; simp only [Act.put, List.setIfInBounds_toArray, List.set_cons_succ, List.set_cons_zero]) | (refine wpMix_calm rfl rfl (fun K hK => ?_); go_big_quiet_op; refine hK _ ?_; clear hK K))
                clear hg10 hf10
                first
                  | (iterate 14 (first | (refine wpMix_skip rfl ?_; simp only [Act.put, List.setIfInBounds_toArray, List.set_cons_succ, List.set_cons_zero]) | (refine wpMix_calm rfl rfl (fun K hK => ?_); go_big_quiet_op; refine hK _ ?_; clear hK K))
                     refine wpMix_nil ?_
                     clear hx10
                     go_wp2_with fail
                     go_roundw
                     case rel => exact ⟨j + 1, by have := Hsl.out; omega, by go_num, Hf10.out.drew⟩
                     case measure => simp [intOf]; omega)
                  | (iterate 4 (first | (refine wpMix_skip rfl ?_; simp only [Act.put, List.setIfInBounds_toArray, List.set_cons_succ, List.set_cons_zero]) | (refine wpMix_calm rfl rfl (fun K hK => ?_); go_big_quiet_op; refine hK _ ?_; clear hK K))
                     have hkx := key_of_flow hx10
                     (refine wpMix_load_atw rfl 25 (.tmp 106) rfl _ _ rfl (KeyM.cells _) (fun W hW => by obtain ⟨z, rfl⟩ := hW; exact CellsAt.fr (by (repeat (first | assumption | exact cells_new _ _ _ (by simp) | refine CellsAt.alloc ?_ _ | refine CellsAt.drew ?_ | refine CellsAt.drewN ?_ _))) z.fr (fun h => h)) _ Try.underlying25 rfl (by kernel_rfl) ?_; simp only [Act.put, List.setIfInBounds_toArray, List.set_cons_succ, List.set_cons_zero])
                     refine wpMix_spine rfl rfl (fun K hK => ?_); go_wp2_with fail
                     refine (ref8_turn f.key _).mono ?_
                     rintro e w11 ⟨rfl, f11⟩
                     have f11 : Fr noB w10 w11 := (Fr.refl _ _).drew.tr f11
                     have Hf11 := hide (Hf10.out.tr f11)
                     refine hK _ _ rfl (inGrow f11) ?_
                     clear hK K f11
                     iterate 4 (first | (refine wpMix_skip rfl ?_; simp only [Act.put, List.setIfInBounds_toArray, List.set_cons_succ, List.set_cons_zero]) | (refine wpMix_calm rfl rfl (fun K hK => ?_); go_big_quiet_op; refine hK _ ?_; clear hK K))
                     (refine wpMix_load_atw rfl 25 (.tmp 112) rfl _ _ rfl (KeyM.cells _) (fun W hW => by obtain ⟨z, rfl⟩ := hW; exact CellsAt.fr (by (repeat (first | assumption | exact cells_new _ _ _ (by simp) | refine CellsAt.alloc ?_ _ | refine CellsAt.drew ?_ | refine CellsAt.drewN ?_ _))) z.fr (fun h => h)) _ Try.underlying25 rfl (by kernel_rfl) ?_; simp only [Act.put, List.setIfInBounds_toArray, List.set_cons_succ, List.set_cons_zero])
                     refine wpMix_eqs rfl true 25 (.tmp 108) (.tmp 113) rfl (turnK f.key).cells.toArray f.key.cells.toArray rfl rfl true (by kernel_rfl) (fun w => by rw [key_equal, Htk.out]) ?_
                     simp only [Act.put, List.setIfInBounds_toArray, List.set_cons_succ, List.set_cons_zero]
                     iterate 2 (first | (refine wpMix_skip rfl ?_; simp only [Act.put, List.setIfInBounds_toArray, List.set_cons_succ, List.set_cons_zero]) | (refine wpMix_calm rfl rfl (fun K hK => ?_); go_big_quiet_op; refine hK _ ?_; clear hK K))
                     refine wpMix_nil ?_
                     clear hx10 hkx
                     go_wp2_with fail
                     go_roundw
                     case rel => exact ⟨j + 1, by have := Hsl.out; omega, by go_num, Hf11.out⟩
                     case measure => simp [intOf]; omega)
            · have hck9 := Hck5.out.fr Hfj.out (fun h => h)
              clear h1
              go_wp2_with (refine wpList_load_at rfl 25 _ rfl _ _ rfl (KeyM.cells _) (by (repeat (first | assumption | exact cells_new _ _ _ (by simp) | refine CellsAt.alloc ?_ _ | refine CellsAt.drew ?_ | refine CellsAt.drewN ?_ _))) _ Try.underlying25 rfl (by kernel_rfl) ?_)
              clear hck9
              refine (flows_find _ F g fl mo (Ht5.out.frN Hfj.out) ky).mono ?_
              rintro e w6 ⟨rfl, f6⟩
              have Hf6 := hide (Hfj.out.tr f6); have Hck6 := hide ((Hck5.out.fr Hfj.out (fun h => h)).fr f6 (fun h => h))
              clear f6
              rcases find_ways fl ky with hx | ⟨f, hx, hp, hq⟩ | ⟨f, hx, hp, hq⟩ | ⟨f, hx, hp, hq⟩
              · rw [hx]
                unfold foundV
                clear hx
                go_upto_region 20 with (refine wpList_store_new rfl 29 _ _ rfl _ _ (FlowM.cells _) _ rfl rfl (by simp) (by kernel_rfl) rfl (by kernel_rfl) ?_)
                refine wp_gen (fun W => CellsAt W w6.heap.size 0 zeroF.cells ∧ Fr noB w6 W) ⟨by (repeat (first | assumption | exact cells_new _ _ _ (by simp) | refine CellsAt.alloc ?_ _ | refine CellsAt.drew ?_ | refine CellsAt.drewN ?_ _)), (Fr.refl _ _).alloc _⟩ ?_
                rintro w7 ⟨hc7, f7⟩
                have Hf7 := hide (Hf6.out.tr f7)
                clear f7
                go_wp2_with (first | (refine wpList_load_at rfl 29 _ rfl _ _ rfl (FlowM.cells _) (by (repeat (first | assumption | exact cells_new _ _ _ (by simp) | refine CellsAt.alloc ?_ _ | refine CellsAt.drew ?_ | refine CellsAt.drewN ?_ _))) _ Try.underlying29 rfl (by kernel_rfl) ?_) | (refine wpList_build_as rfl 29 _ rfl zeroF.cells.toArray (by kernel_rfl) ?_) | (refine wpList_eqs rfl false 29 (.tmp 126) (.tmp 127) rfl zeroF.cells.toArray zeroF.cells.toArray rfl rfl true (by kernel_rfl) (by rw [flow_equal, decide_eq_true rfl]) ?_))
                clear hc7
                refine (law_known _).mono ?_
                rintro e w8 ⟨rfl, f8⟩
                have Hf8 := hide (Hf7.out.tr f8)
                clear f8
                go_wp2_with fail
                go_ret
                exact ⟨rfl, Hf5.out.tr Hf8.out⟩
              all_goals
                rw [hx]
                unfold foundV
                have Hp := hide hp; have Hq := hide hq
                clear hx hp hq
                go_upto_region 22 with (refine wpList_store_new rfl 29 _ _ rfl _ _ (FlowM.cells _) _ rfl rfl (by simp) (by kernel_rfl) rfl (by kernel_rfl) ?_)
                refine wp_gen (fun W => CellsAt W w6.heap.size 0 f.key.cells ∧ CellsAt W w.heap.size 0 ky.cells ∧ Fr noB w6 W) ⟨key_of_flow (by (repeat (first | assumption | exact cells_new _ _ _ (by simp) | refine CellsAt.alloc ?_ _ | refine CellsAt.drew ?_ | refine CellsAt.drewN ?_ _))), Hck6.out.alloc _, (Fr.refl _ _).alloc _⟩ ?_
                rintro w7 ⟨hc7, hk7, f7⟩
                have Hf7 := hide (Hf6.out.tr f7)
                clear f7
                refine wp_region_mix (fun W => ∃ z : Grow w7, W = z.v) (by kernel_rfl) (by kernel_rfl) (inGrow (Fr.refl _ _).drew) ?_
                iterate 1 (first | (refine wpMix_skip rfl ?_; simp only [Act.put, List.setIfInBounds_toArray, List.set_cons_succ, List.set_cons_zero]) | (refine wpMix_calm rfl rfl (fun K hK => ?_); go_big_quiet_op; refine hK _ ?_; clear hK K))
                (refine wpMix_load_atw rfl 25 (.tmp 136) rfl _ _ rfl (KeyM.cells _) (fun W hW => by obtain ⟨z, rfl⟩ := hW; exact CellsAt.fr (by (repeat (first | assumption | exact cells_new _ _ _ (by simp) | refine CellsAt.alloc ?_ _ | refine CellsAt.drew ?_ | refine CellsAt.drewN ?_ _))) z.fr (fun h => h)) _ Try.underlying25 rfl (by kernel_rfl) ?_; simp only [Act.put, List.setIfInBounds_toArray, List.set_cons_succ, List.set_cons_zero])
                (refine wpMix_load_atw rfl 25 (.tmp 3) rfl _ _ rfl (KeyM.cells _) (fun W hW => by obtain ⟨z, rfl⟩ := hW; exact CellsAt.fr (by (repeat (first | assumption | exact cells_new _ _ _ (by simp) | refine CellsAt.alloc ?_ _ | refine CellsAt.drew ?_ | refine CellsAt.drewN ?_ _))) z.fr (fun h => h)) _ Try.underlying25 rfl (by kernel_rfl) ?_; simp only [Act.put, List.setIfInBounds_toArray, List.set_cons_succ, List.set_cons_zero])
                refine wpMix_eqs rfl false 25 (.tmp 137) (.tmp 138) rfl f.key.cells.toArray ky.cells.toArray rfl rfl _ (by kernel_rfl) (fun w => by rw [key_equal, Hp.out]) ?_
                simp only [Act.put, List.setIfInBounds_toArray, List.set_cons_succ, List.set_cons_zero]
                iterate 6 (first | (refine wpMix_skip rfl ?_; simp only [Act.put, List.setIfInBounds_toArray, List.set_cons_succ, List.set_cons_zero]) | (refine wpMix_calm rfl rfl (fun K hK => ?_); go_big_quiet_op; refine hK _ ?_; clear hK K))
                (refine wpMix_load_atw rfl 25 (.tmp 145) rfl _ _ rfl (KeyM.cells _) (fun W hW => by obtain ⟨z, rfl⟩ := hW; exact CellsAt.fr (by (repeat (first | assumption | exact cells_new _ _ _ (by simp) | refine CellsAt.alloc ?_ _ | refine CellsAt.drew ?_ | refine CellsAt.drewN ?_ _))) z.fr (fun h => h)) _ Try.underlying25 rfl (by kernel_rfl) ?_; simp only [Act.put, List.setIfInBounds_toArray, List.set_cons_succ, List.set_cons_zero])
                (refine wpMix_load_atw rfl 25 (.tmp 3) rfl _ _ rfl (KeyM.cells _) (fun W hW => by obtain ⟨z, rfl⟩ := hW; exact CellsAt.fr (by (repeat (first | assumption | exact cells_new _ _ _ (by simp) | refine CellsAt.alloc ?_ _ | refine CellsAt.drew ?_ | refine CellsAt.drewN ?_ _))) z.fr (fun h => h)) _ Try.underlying25 rfl (by kernel_rfl) ?_; simp only [Act.put, List.setIfInBounds_toArray, List.set_cons_succ, List.set_cons_zero])
                refine wpMix_spine rfl rfl (fun K hK => ?_); go_wp2_with fail
                refine (ref8_turn ky _).mono ?_
                rintro e w8 ⟨rfl, f8⟩
                have f8 : Fr noB w7 w8 := (Fr.refl _ _).drew.tr f8
                have Hf8 := hide f8
                refine hK _ _ rfl (inGrow f8) ?_
                clear hK K f8
                refine wpMix_eqs rfl false 25 (.tmp 146) (.tmp 148) rfl f.key.cells.toArray (turnK ky).cells.toArray rfl rfl _ (by kernel_rfl) (fun w => by rw [key_equal, Hq.out]) ?_
                simp only [Act.put, List.setIfInBounds_toArray, List.set_cons_succ, List.set_cons_zero]
                iterate 1 (first | (refine wpMix_skip rfl ?_; simp only [Act.put, List.setIfInBounds_toArray, List.set_cons_succ, List.set_cons_zero]) | (refine wpMix_calm rfl rfl (fun K hK => ?_); go_big_quiet_op; refine hK _ ?_; clear hK K))
                first
                  | (iterate 1 (first | (refine wpMix_skip rfl ?_; simp only [Act.put, List.setIfInBounds_toArray, List.set_cons_succ, List.set_cons_zero]) | (refine wpMix_calm rfl rfl (fun K hK => ?_); go_big_quiet_op; refine hK _ ?_; clear hK K))
                     (refine wpMix_load_atw rfl 25 (.tmp 151) rfl _ _ rfl (KeyM.cells _) (fun W hW => by obtain ⟨z, rfl⟩ := hW; exact CellsAt.fr (by (repeat (first | assumption | exact cells_new _ _ _ (by simp) | refine CellsAt.alloc ?_ _ | refine CellsAt.drew ?_ | refine CellsAt.drewN ?_ _))) z.fr (fun h => h)) _ Try.underlying25 rfl (by kernel_rfl) ?_; simp only [Act.put, List.setIfInBounds_toArray, List.set_cons_succ, List.set_cons_zero])
                     (refine wpMix_load_atw rfl 25 (.tmp 3) rfl _ _ rfl (KeyM.cells _) (fun W hW => by obtain ⟨z, rfl⟩ := hW; exact CellsAt.fr (by (repeat (first | assumption | exact cells_new _ _ _ (by simp) | refine CellsAt.alloc ?_ _ | refine CellsAt.drew ?_ | refine CellsAt.drewN ?_ _))) z.fr (fun h => h)) _ Try.underlying25 rfl (by kernel_rfl) ?_; simp only [Act.put, List.setIfInBounds_toArray, List.set_cons_succ, List.set_cons_zero])
                     refine wpMix_eqs rfl true 25 (.tmp 152) (.tmp 153) rfl f.key.cells.toArray ky.cells.toArray rfl rfl _ (by kernel_rfl) (fun w => by rw [key_equal, Hp.out]) ?_
                     simp only [Act.put, List.setIfInBounds_toArray, List.set_cons_succ, List.set_cons_zero])
                  | (iterate 4 (first | (refine wpMix_skip rfl ?_; simp only [Act.put, List.setIfInBounds_toArray, List.set_cons_succ, List.set_cons_zero]) | (refine wpMix_calm rfl rfl (fun K hK => ?_); go_big_quiet_op; refine hK _ ?_; clear hK K)))
                clear hc7 hk7
                iterate 4 (first | (refine wpMix_skip rfl ?_; simp only [Act.put, List.setIfInBounds_toArray, List.set_cons_succ, List.set_cons_zero]) | (refine wpMix_calm rfl rfl (fun K hK => ?_); go_big_quiet_op; refine hK _ ?_; clear hK K))
                refine wpMix_spine rfl rfl (fun K hK => ?_); go_wp2_with fail
                refine (law_known _).mono ?_
                rintro e w9 ⟨rfl, f9⟩
                have f9 : Fr noB w7 w9 := Hf8.out.tr f9
                have Hf9 := hide (Hf7.out.tr f9)
                refine hK _ _ rfl (inGrow f9) ?_
                clear hK K f9
                repeat (first | (refine wpMix_skip rfl ?_; simp only [Act.put, List.setIfInBounds_toArray, List.set_cons_succ, List.set_cons_zero]) | (refine wpMix_calm rfl rfl (fun K hK => ?_); go_big_quiet_op; refine hK _ ?_; clear hK K))
                refine wpMix_nil ?_
                go_wp2_with fail
                go_ret
                exact ⟨rfl, Hf5.out.tr Hf9.out⟩
end Go.Proofs.Ytjfjpibjjliagaa
