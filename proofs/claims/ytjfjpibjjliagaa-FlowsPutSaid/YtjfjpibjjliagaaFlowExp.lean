/- flows.Expire. -/
import Derived.Test.YtjfjpibjjliagaaFlowPut
namespace Go.Proofs.Ytjfjpibjjliagaa
open Go.RowKit Go.BigFrame
set_option linter.unusedSimpArgs false
set_option linter.unusedVariables false
attribute [local irreducible] wpMix

def ExpTo (w : World) (F : Nat → Prop) (g : Nat) (fl : List FlowM) (now most : Int) (e : Ending) (w' : World) : Prop :=
  ∃ s : SlV, e = .returned (.slice s.a s.len s.cap) ∧ NewL w w' 29 14 FlowM.cells s (goneF now fl) ∧ Tab w' (gr F w w') g (stayF now fl) most ∧ Fr F w w'
theorem gone_take {now : Int} {fl : List FlowM} {k : Nat} {f : FlowM} (h : fl[k]? = some f) : goneF now (fl.take (k + 1)) = goneF now (fl.take k) ++ (if dueB now f then [f] else []) := by
  obtain ⟨hk, rfl⟩ := List.getElem?_eq_some_iff.1 h
  unfold goneF
  rw [List.take_succ_eq_append_getElem hk, List.filter_append, List.filter_cons, List.filter_nil]
theorem stay_take {now : Int} {fl : List FlowM} {k : Nat} {f : FlowM} (h : fl[k]? = some f) : stayF now (fl.take (k + 1)) = stayF now (fl.take k) ++ (if dueB now f then [] else [f]) := by
  obtain ⟨hk, rfl⟩ := List.getElem?_eq_some_iff.1 h
  unfold stayF
  rw [List.take_succ_eq_append_getElem hk, List.filter_append, List.filter_cons, List.filter_nil]
  cases dueB now fl[k] <;> simp
def ExpAt (w0 : World) (fl : List FlowM) (now : Int) (v1 v2 i : Value) (wr : World) : Prop :=
  ∃ (k : Nat) (s1 s2 : SlV), k ≤ fl.length ∧ i = .int .i64 k ∧ v1 = .slice s1.a s1.len s1.cap ∧ v2 = .slice s2.a s2.len s2.cap ∧ NewL w0 wr 29 14 FlowM.cells s1 (goneF now (fl.take k)) ∧ NewL w0 wr 29 14 FlowM.cells s2 (stayF now (fl.take k)) ∧
    (∀ b, ownB s1 b → ¬ ownB s2 b) ∧ Fr noB w0 wr
def MapAt (w0 : World) (mb : Nat) (st : List FlowM) (i : Value) (wr : World) : Prop := ∃ k : Nat, k ≤ st.length ∧ i = .int .i64 k ∧ (∃ n, KMap KeyM.cells wr mb n (fidx (st.take k))) ∧ Fr (oneB mb) w0 wr

theorem fidx_take {st : List FlowM} (h : Keys st) {k : Nat} {f : FlowM} (hx : st[k]? = some f) : fidx (st.take (k + 1)) = upd (fidx (st.take k)) f.key k := by
  obtain ⟨hk, rfl⟩ := List.getElem?_eq_some_iff.1 hx
  have hl : (st.take k).length = k := by rw [List.length_take]; omega
  have e := fidx_app (fl := st.take k) (f := st[k]) (fun x hm he => by
    obtain ⟨j, hj⟩ := List.getElem?_of_mem hm
    have hjk : j < k := by have := (List.getElem?_eq_some_iff.1 hj).1; omega
    rw [List.getElem?_take_of_lt hjk] at hj
    obtain ⟨hjl, hje⟩ := List.getElem?_eq_some_iff.1 hj
    have := List.pairwise_iff_getElem.1 h j k (by simpa using hjl) (by simpa using hk) hjk
    simp only [List.getElem_map, hje, he] at this
    exact this rfl)
  rw [hl] at e
  rw [List.take_succ_eq_append_getElem hk]
  exact e
theorem flows_expire_nil (now : Int) (w : World) : Calls Try.prog 15 #[.pointer none, .int .i64 now] w fun e w' => e = .returned (.slice none 0 0) ∧ w = w' := by
  go_enter Try.func15, Try.ntmps15
  go_wp2_with fail
  go_ret
  exact ⟨rfl, rfl⟩

set_option maxHeartbeats 1000000 in
theorem flows_expire (w : World) (F : Nat → Prop) (g : Nat) (fl : List FlowM) (most : Int) (h : Tab w F g fl most) (now : Int) :
    Calls Try.prog 15 #[.pointer (some ⟨g, 0, none⟩), .int .i64 now] w (ExpTo w F g fl now most) := by
  have H := hide h
  have hlen : fl.length ≤ 64 := by have := h.len; have := h.most64; omega
  obtain ⟨⟨⟨sa, sl, sc⟩, mb, n, hblk, hown, hkm, hF1, hF2⟩, hF0, hlt, hkeys, hle, hm0, hm64, hwfs⟩ := h
  have hsl : sl = fl.length := hown.1
  have c0 : w.cell? ⟨g, 0, none⟩ = some (.slice sa sl sc) := hblk.cell 0
  have Hblk := hide hblk; have Hown := hide hown; have Hkm := hide hkm; have Hsl := hide hsl; have HF1 := hide hF1; have HF2 := hide hF2; have HF0 := hide hF0; have Hkeys := hide hkeys; have Hwfs := hide hwfs; have Hlt := hide hlt; have Hle := hide hle
  clear hblk hown hkm hsl hF1 hF2 hF0 hkeys hwfs hlt hle
  have hmax : sl ≤ 64 := by rw [Hsl.out]; exact hlen
  go_enter Try.func15, Try.ntmps15
  go_wp2_with fail
  clear c0
  go_loopw [5, 6, 18] (ExpAt w fl now) (fun _ _ i _ => sl - (intOf i).toNat)
  case atStart => exact ⟨0, ⟨none, 0, 0⟩, ⟨none, 0, 0⟩, Nat.zero_le _, rfl, rfl, rfl, NewL.nil _ _ _ _ _, NewL.nil _ _ _ _ _, fun b ⟨_, h, _⟩ => by simp at h, Fr.refl _ _⟩
  case round =>
    obtain ⟨k, s1, s2, hk, rfl, rfl, rfl, hn1, hn2, hdis, hf⟩ := hrel
    have HN1 := hide hn1; have HN2 := hide hn2; have HDis := hide hdis; have Hf := hide hf
    clear hn1 hn2 hdis hf
    by_cases hlt : k < sl
    · have hk2 : k < fl.length := by have := Hsl.out; omega
      have hx : fl[k]? = some fl[k] := List.getElem?_eq_getElem hk2
      have hwfk : fl[k].wf := Hwfs.out _ (List.getElem_mem hk2)
      obtain ⟨gs, rfl, _, hcx, _⟩ := own_at (Hown.out.fr Hf.out (fun _ _ h => h)) FlowM.length hx
      have hgt := hide (gone_take (now := now) hx); have hst := hide (stay_take (now := now) hx)
      have hl1 : (goneF now (fl.take k)).length ≤ 64 := Nat.le_trans (List.length_filter_le _ _) (by rw [List.length_take]; omega)
      have hl2 : (stayF now (fl.take k)).length ≤ 64 := Nat.le_trans (List.length_filter_le _ _) (by rw [List.length_take]; omega)
      generalize fl[k] = f at *
      have Hx := hide hx; have Hwfk := hide hwfk; have Hcx := hide hcx
      clear hx hk hwfk hcx
      have hmul : ((k : Int) * 14).toNat = k * 14 := by omega
      have hcf : CellsAt wr gs (k * 14) f.cells := Hcx.out
      go_upto_region 7 with (first | (refine wpList_load_at rfl 29 _ rfl _ _ rfl (FlowM.cells _) (by (repeat (first | assumption | exact cells_new _ _ _ (by simp) | refine CellsAt.alloc ?_ _ | refine CellsAt.drew ?_ | refine CellsAt.drewN ?_ _))) _ Try.underlying29 rfl (by kernel_rfl) ?_) | (refine wpList_store_new rfl 29 _ _ rfl _ _ (FlowM.cells _) _ rfl rfl (by simp) (by kernel_rfl) rfl (by kernel_rfl) ?_))
      clear hcf
      simp only [Act.put, List.setIfInBounds_toArray, List.set_cons_succ, List.set_cons_zero]
      refine wp_gen (fun W => CellsAt W wr.heap.size 0 f.cells ∧ Fr noB wr W) ⟨by (repeat (first | assumption | exact cells_new _ _ _ (by simp) | refine CellsAt.alloc ?_ _ | refine CellsAt.drew ?_ | refine CellsAt.drewN ?_ _)), (Fr.refl _ _).alloc _⟩ ?_
      rintro w1 ⟨hcf, hf1⟩
      have c6 : w1.cell? ⟨wr.heap.size, 6, none⟩ = some (.int .i64 f.due) := by have := hcf 6 _ rfl; rwa [Nat.zero_add] at this
      have Hf1 := hide hf1
      have HN11 := hide (HN1.out.fr hf1); have HN21 := hide (HN2.out.fr hf1)
      clear hf1
      cases hd : dueB now f with
      | true =>
        have hd' : decide (f.due ≤ now) = true := hd
        have Hgt := hide hgt.out; have Hst := hide hst.out
        rw [hd] at Hgt Hst
        clear hd hgt hst
        have hone := slof_one (w := w1) (ok := FlowM.wf) (x := f) FlowM.length 29 Hwfk.out
        have Hone := hide hone
        clear hone
        go_wp2_with (first | (refine wpList_load_at rfl 29 _ rfl _ _ rfl (FlowM.cells _) (by (repeat (first | assumption | exact cells_new _ _ _ (by simp) | refine CellsAt.alloc ?_ _ | refine CellsAt.drew ?_ | refine CellsAt.drewN ?_ _))) _ Try.underlying29 rfl (by kernel_rfl) ?_) | (refine wpList_buildSlice rfl 22 1 _ rfl #[(0, .agg f.cells.toArray)] (by kernel_rfl) Try.underlying22 (.agg zeroF.cells.toArray) 14 (by kernel_rfl) f.cells.toArray (by decide) (by decide) (by kernel_rfl) ?_) | (refine wpList_append_newD (w0 := w) (N := 14) (cells := FlowM.cells) (xs := goneF now (fl.take k)) (s := s1) (q := ⟨some ⟨w1.heap.size, 0, none⟩, 1, 1⟩) (ys := [f]) (ok := FlowM.wf) rfl (.tmp 26) (.tmp 28) 22 rfl Try.underlying22 _ 120 flow_info (by kernel_rfl) (by decide) FlowM.length FlowM.mem rfl (HN11.out.fr ((Fr.refl _ _).alloc _)) ((Hf.out.tr Hf1.out).alloc _) rfl Hone.out (fun h => by simp at h) (by simp [maxLen]; omega) (by simp; omega) ?_; intro s3 v1 hn3 hf3 hf4 hbs; have HN3 := hide hn3; have HF3 := hide hf3; have HF4 := hide hf4; have HBs := hide hbs; clear hn3 hf3 hf4 hbs))
        go_roundw
        case rel =>
          refine ⟨k + 1, s3, s2, by omega, by go_num, rfl, rfl, by rw [Hgt.out]; exact HN3.out, ?_, ?_, HF3.out⟩
          · rw [Hst.out]
            simp only [if_true, List.append_nil]
            refine (HN21.out.fr ((Fr.refl noB _).alloc (.cells f.cells.toArray 29))).frS HF4.out (fun b hb h => HDis.out b h hb)
          · intro b hb hb2
            rcases HBs.out b hb with h | h
            · exact HDis.out b h hb2
            · have := HN21.out.1.lt b hb2; simp at h; omega
        case measure => simp [intOf]; omega
      | false =>
        have hd' : decide (f.due ≤ now) = false := hd
        have Hgt := hide hgt.out; have Hst := hide hst.out
        rw [hd] at Hgt Hst
        clear hd hgt hst
        have hone := slof_one (w := w1) (ok := FlowM.wf) (x := f) FlowM.length 29 Hwfk.out
        have Hone := hide hone
        clear hone
        go_wp2_with (first | (refine wpList_load_at rfl 29 _ rfl _ _ rfl (FlowM.cells _) (by (repeat (first | assumption | exact cells_new _ _ _ (by simp) | refine CellsAt.alloc ?_ _ | refine CellsAt.drew ?_ | refine CellsAt.drewN ?_ _))) _ Try.underlying29 rfl (by kernel_rfl) ?_) | (refine wpList_buildSlice rfl 22 1 _ rfl #[(0, .agg f.cells.toArray)] (by kernel_rfl) Try.underlying22 (.agg zeroF.cells.toArray) 14 (by kernel_rfl) f.cells.toArray (by decide) (by decide) (by kernel_rfl) ?_) | (refine wpList_append_newD (w0 := w) (N := 14) (cells := FlowM.cells) (xs := stayF now (fl.take k)) (s := s2) (q := ⟨some ⟨w1.heap.size, 0, none⟩, 1, 1⟩) (ys := [f]) (ok := FlowM.wf) rfl (.tmp 30) (.tmp 32) 22 rfl Try.underlying22 _ 120 flow_info (by kernel_rfl) (by decide) FlowM.length FlowM.mem rfl (HN21.out.fr ((Fr.refl _ _).alloc _)) ((Hf.out.tr Hf1.out).alloc _) rfl Hone.out (fun h => by simp at h) (by simp [maxLen]; omega) (by simp; omega) ?_; intro s3 v1 hn3 hf3 hf4 hbs; have HN3 := hide hn3; have HF3 := hide hf3; have HF4 := hide hf4; have HBs := hide hbs; clear hn3 hf3 hf4 hbs))
        go_roundw
        case rel =>
          refine ⟨k + 1, s1, s3, by omega, by go_num, rfl, rfl, ?_, by rw [Hst.out]; exact HN3.out, ?_, HF3.out⟩
          · rw [Hgt.out]
            simp only [Bool.false_eq_true, if_false, List.append_nil]
            refine (HN11.out.fr ((Fr.refl noB _).alloc (.cells f.cells.toArray 29))).frS HF4.out (fun b hb h => HDis.out b hb h)
          · intro b hb hb2
            rcases HBs.out b hb2 with h | h
            · exact HDis.out b hb h
            · have := HN11.out.1.lt b hb; simp at h; omega
        case measure => simp [intOf]; omega
    · have hkl : k = fl.length := by have := Hsl.out; omega
      have htk : fl.take k = fl := by rw [hkl, List.take_length]
      rw [htk] at HN1 HN2
      clear htk hkl
      have hl2 : (stayF now fl).length ≤ 64 := Nat.le_trans (List.length_filter_le _ _) hlen
      have hstk : Keys (stayF now fl) := List.Nodup.sublist (List.Sublist.map _ (List.filter_sublist (l := fl))) Hkeys.out
      have hsw : ∀ f ∈ stayF now fl, f.wf := fun f hf => Hwfs.out f (List.mem_filter.1 hf).1
      have hsm : ((stayF now fl).length : Int) ≤ most := by have := Hle.out; have := List.length_filter_le (fun f => !dueB now f) fl; unfold stayF; omega
      have Hstk := hide hstk; have Hsw := hide hsw; have Hsm := hide hsm
      have Hs2 := hide HN2.out.1.1
      generalize hst : stayF now fl = st at *
      have Hst := hide hst
      clear hst hstk hsw hsm
      have hblk2 := Hblk.out.fr Hf.out (fun h => h)
      have c0 : wr.cell? ⟨g, 0, none⟩ = some (.slice sa sl sc) := hblk2.cell 0
      have z0 : wr.frozen? ⟨g, 0, none⟩ = false := hblk2.free 0
      have nb1 := hide (blk_ne_map hblk2 (Hkm.out.fr Hf.out (fun h => h)))
      have nb2 := hide (own_ne_map HN2.out.1 (Hkm.out.fr Hf.out (fun h => h)))
      have nb3 := hide (blk_ne_own hblk2 HN2.out.1 (by decide))
      have nb4 := hide (own_ne_map HN1.out.1 (Hkm.out.fr Hf.out (fun h => h)))
      have nb5 := hide (blk_ne_own hblk2 HN1.out.1 (by decide))
      have Hbl2 := hide hblk2
      clear hblk2
      go_upto_region 12 with (fail)
      refine wp_gen (fun W => Blk W g #[.slice s2.a s2.len s2.cap, .map (some mb), .int .i64 most] 58 ∧ Fr (oneB g) wr W) ⟨Hbl2.out.set 0 _, (Fr.refl (oneB g) _).setCell (p := ⟨g, 0, none⟩) (.inr rfl) _⟩ ?_
      rintro w1 ⟨hb1, hf1⟩
      have c1 : w1.cell? ⟨g, 1, none⟩ = some (.map (some mb)) := hb1.cell 1
      have Hb1 := hide hb1; have Hf1 := hide hf1
      have Hkm1 := hide (((Hkm.out.fr Hf.out (fun h => h))).fr hf1 (fun e => nb1.out e.symm))
      have HN12 := hide (HN1.out.frS hf1 (fun b hb e => by unfold oneB at e; subst e; exact nb5.out hb))
      have HN22 := hide (HN2.out.frS hf1 (fun b hb e => by unfold oneB at e; subst e; exact nb3.out hb))
      clear hb1 hf1 c0 z0
      go_upto_region 13 with (refine wpList_kclear rfl (.tmp 42) rfl Try.underlying56 rfl Hkm1.out ?_; intro w2 hk2 hf2 hs2; have Hk2 := hide hk2; have Hf2 := hide hf2; clear hk2 hf2 hs2)
      simp only [Act.put, List.setIfInBounds_toArray, List.set_cons_succ, List.set_cons_zero]
      have c1' : w2.cell? ⟨g, 1, none⟩ = some (.map (some mb)) := (Hb1.out.fr Hf2.out nb1.out).cell 1
      clear c1 Hkm1
      have HN13 := hide (HN12.out.frS Hf2.out (fun b hb e => by unfold oneB at e; subst e; exact nb4.out hb))
      have HN23 := hide (HN22.out.frS Hf2.out (fun b hb e => by unfold oneB at e; subst e; exact nb2.out hb))
      have Hb2 := hide (Hb1.out.fr Hf2.out nb1.out)
      obtain ⟨s2a, s2l, s2c⟩ := s2
      have hs2m : s2l ≤ 64 := by have := Hs2.out; simp only at this; omega
      go_wp2_with fail
      clear c1'
      go_loopw [45] (MapAt w2 mb st) (fun i _ => s2l - (intOf i).toNat)
      case atStart => exact ⟨0, Nat.zero_le _, rfl, ⟨0, by rw [show fidx (st.take 0) = fun _ => none from by funext k; simp [fidx]]; exact Hk2.out⟩, Fr.refl _ _⟩
      case round =>
        obtain ⟨j, hj, rfl, hkj, hfj⟩ := hrel
        have Hkj := hide hkj; have Hfj := hide hfj
        clear hkj hfj
        by_cases hlt2 : j < s2l
        · have hj2 : j < st.length := by have : s2l = st.length := Hs2.out; omega
          have hx : st[j]? = some st[j] := List.getElem?_eq_getElem hj2
          have hft := hide (fidx_take Hstk.out hx)
          have HN24 := HN23.out.frS Hfj.out (fun b hb e => by unfold oneB at e; subst e; exact nb2.out hb)
          obtain ⟨gs, hgs, _, hcx, _⟩ := own_at HN24.1 FlowM.length hx
          simp only at hgs
          have Hgs := hide hgs
          subst hgs
          generalize st[j] = f at *
          have hmul : ((j : Int) * 14).toNat = j * 14 := by omega
          have Hx := hide hx
          clear HN24 hx hj hlt
          have Hcx := hide hcx
          clear hcx
          have hcf : CellsAt wr gs (j * 14) f.cells := Hcx.out
          go_upto_region 16 with (first | (refine wpList_load_at rfl 29 _ rfl _ _ rfl (FlowM.cells _) (by (repeat (first | assumption | exact cells_new _ _ _ (by simp) | refine CellsAt.alloc ?_ _ | refine CellsAt.drew ?_ | refine CellsAt.drewN ?_ _))) _ Try.underlying29 rfl (by kernel_rfl) ?_) | (refine wpList_store_new rfl 29 _ _ rfl _ _ (FlowM.cells _) _ rfl rfl (by simp) (by kernel_rfl) rfl (by kernel_rfl) ?_))
          clear hcf
          simp only [Act.put, List.setIfInBounds_toArray, List.set_cons_succ, List.set_cons_zero]
          refine wp_gen (fun W => CellsAt W wr.heap.size 0 f.cells ∧ Fr noB wr W) ⟨by (repeat (first | assumption | exact cells_new _ _ _ (by simp) | refine CellsAt.alloc ?_ _ | refine CellsAt.drew ?_ | refine CellsAt.drewN ?_ _)), (Fr.refl _ _).alloc _⟩ ?_
          rintro w3 ⟨hcf, hf3⟩
          have hck := key_of_flow hcf
          have hFj3 : Fr (oneB mb) w2 w3 := Hfj.out.trans hf3 (fun _ _ h => h) (fun _ _ h => h.elim)
          have hg1 : ∀ z : Grow w3, z.v.cell? ⟨g, 1, none⟩ = some (.map (some mb)) := fun z => ((Hb2.out.fr hFj3 nb1.out).fr z.fr (fun h => h)).cell 1
          have HFj3 := hide hFj3
          have Hk3 := hide (show ∃ n, KMap KeyM.cells w3.drew mb n (fidx (st.take j)) from by obtain ⟨n, h⟩ := Hkj.out; exact ⟨n, h.fr hf3.drew (fun h => h)⟩)
          clear hf3 hFj3
          refine wp_region_mixT 7 (fun W => ∃ z : Grow w3, W = z.v) (by kernel_rfl) (by kernel_rfl) (inGrow (Fr.refl _ _).drew) ?_
          simp only [List.take_succ_cons, List.take_zero, List.drop_succ_cons, List.drop_zero]
          iterate 5 (first | (refine wpMix_skip rfl ?_; simp only [Act.put, List.setIfInBounds_toArray, List.set_cons_succ, List.set_cons_zero]) | (refine wpMix_calm rfl rfl (fun K hK => ?_); go_big_quiet_op; refine hK _ ?_; clear hK K))
          (refine wpMix_load_atw rfl 25 (.tmp 54) rfl _ _ rfl (KeyM.cells _) (fun W hW => by obtain ⟨z, rfl⟩ := hW; exact CellsAt.fr (by (repeat (first | assumption | exact cells_new _ _ _ (by simp) | refine CellsAt.alloc ?_ _ | refine CellsAt.drew ?_ | refine CellsAt.drewN ?_ _))) z.fr (fun h => h)) _ Try.underlying25 rfl (by kernel_rfl) ?_; simp only [Act.put, List.setIfInBounds_toArray, List.set_cons_succ, List.set_cons_zero])
          repeat (first | (refine wpMix_skip rfl ?_; simp only [Act.put, List.setIfInBounds_toArray, List.set_cons_succ, List.set_cons_zero]) | (refine wpMix_calm rfl rfl (fun K hK => ?_); go_big_quiet_op; refine hK _ ?_; clear hK K))
          refine wpMix_nil ?_
          obtain ⟨n3, hk3⟩ := Hk3.out
          refine wpList_kupdate rfl (.tmp 53) (.tmp 55) (.tmp 56) rfl key_fit Try.underlying56 f.key (j : Int) rfl rfl rfl hk3 ?_
          intro w4 hk4 hf4 hs4
          rw [← hft.out] at hk4
          have Hk4 := hide hk4
          have Hf4 := hide (show Fr (oneB mb) w2 w4 from (HFj3.out.drew).tr hf4)
          clear hk4 hf4 hs4 hk3 hg1 hck hcf
          simp only [Act.put, List.setIfInBounds_toArray, List.set_cons_succ, List.set_cons_zero]
          go_wp2_with fail
          go_roundw
          case rel => exact ⟨j + 1, by omega, by go_num, ⟨_, Hk4.out⟩, Hf4.out⟩
          case measure => simp [intOf]; omega
        · have hje : j = st.length := by have : s2l = st.length := Hs2.out; omega
          have htk : st.take j = st := by rw [hje, List.take_length]
          rw [htk] at Hkj
          clear htk hje hlt
          go_wp2_with fail
          go_ret
          obtain ⟨n5, hk5⟩ := Hkj.out
          have hFR : Fr F w wr := by
            refine Fr.trans (Fr.trans (Fr.trans Hf.out Hf1.out (fun _ _ h => h.elim) (fun b _ hb => ?_)) Hf2.out (fun _ _ h => h) (fun b _ hb => ?_)) Hfj.out (fun _ _ h => h) (fun b _ hb => ?_)
            · unfold oneB at hb; subst hb; exact HF0.out
            · unfold oneB at hb; subst hb; exact HF1.out
            · unfold oneB at hb; subst hb; exact HF1.out
          have HN25 := HN23.out.frS Hfj.out (fun b hb e => by unfold oneB at e; subst e; exact nb2.out hb)
          refine ⟨s1, rfl, HN13.out.frS Hfj.out (fun b hb e => by unfold oneB at e; subst e; exact nb4.out hb), ⟨⟨⟨s2a, s2l, s2c⟩, mb, n5, Hb2.out.fr Hfj.out nb1.out, ?_, ?_, .inl HF1.out, fun b hb => .inr ⟨HN25.2 b hb, HN25.1.lt b hb⟩⟩, .inl HF0.out, fun b hb => ?_, ?_, ?_, hm0, hm64, ?_⟩, hFR⟩
          · rw [Hst.out]; exact HN25.1
          · rw [Hst.out]; exact hk5
          · rcases hb with hb | hb
            · have := Hlt.out b hb; have := hFR.size; omega
            · exact hb.2
          · rw [Hst.out]; exact Hstk.out
          · rw [Hst.out]; exact Hsm.out
          · rw [Hst.out]; exact Hsw.out
end Go.Proofs.Ytjfjpibjjliagaa
