/- dir.disown: blocks that nobody needs go. -/
import Derived.Test.YtgjabgneapdbiaaDirOwnA
namespace Go.Proofs.Ytgjabgneapdbiaa
open Go.RowKit Go.BigFrame
set_option linter.unusedSimpArgs false
set_option linter.unusedVariables false
attribute [local irreducible] wpMix wpAnyG
attribute [local irreducible] blkC

/-- disown, with m of the blocks to go. -/
def DisLp (w0 : World) (C : Nat → Prop) (g gt : Nat) (most : Int) (st sb : SlV) (gm : Nat) (X : TS) (nb : Nat) (p : PrefixM) (iv : Value) (wr : World) : Prop :=
  ∃ (m : Nat) (sf : SlV), m ≤ (ownedL p).length ∧ iv = .int .i64 ((m : Int) - 1) ∧ CoreAt wr (gr C w0 wr) g gt most st sb sf gm (dnO X p ((ownedL p).length - m)) (nb + ((ownedL p).length - m)) ∧ Fr C w0 wr

set_option maxRecDepth 100000 in
set_option maxHeartbeats 16000000 in
theorem dir_disown (w : World) (C : Nat → Prop) (g gt : Nat) (most : Int) (st sb sf : SlV) (gm : Nat) (X : TS) (nb : Nat) (h : CoreAt w C g gt most st sb sf gm X nb) (hnb : nb + 2 ≤ 1000000) (p : PrefixM) (hpw : p.wf) (hdis : ∀ k o, (ownedL p).reverse[k]? = some o → DisAt (dnO X p k) o) :
    Calls Try.prog 71 #[.pointer (some ⟨g, 0, none⟩), .agg p.cells.toArray] w fun e w' => e = .returned (.tuple #[]) ∧ (∃ sb' sf', CoreAt w' (gr C w w') g gt most st sb' sf' gm (X.disAll p) (nb + 2)) ∧ Fr C w w' := by
  have H := hide h; have Hdis := hide hdis; have Hp := hide hpw; have Hnb := hide hnb
  have HCl := hide h.lt
  clear h hdis hpw hnb
  go_enter Try.func71, Try.ntmps71
  go_upto_region 1 with (fail)
  refine wp_gen (fun W => CellsAt W w.heap.size 0 p.cells ∧ Fr noB w W) ⟨by (repeat (first | assumption | exact cells_new _ _ _ (by simp) | refine CellsAt.alloc ?_ _ | refine CellsAt.drew ?_ | refine CellsAt.drewN ?_ _)), (Fr.refl _ _).alloc _⟩ ?_
  rintro w1 ⟨hc1, hf1⟩
  have Hf1 := hide hf1
  clear hf1
  go_wp2_with (refine wpList_load_at rfl 28 (.tmp 3) rfl w.heap.size 0 rfl p.cells hc1 _ Try.underlying28 rfl (by kernel_rfl) ?_)
  refine (dir_owned p Hp.out w1).mono ?_
  rintro e w2 ⟨⟨s4a, s4l, s4c⟩, rfl, hn2, hf2⟩
  have hl2 : s4l = (ownedL p).length := hn2.len
  have h2 : s4l ≤ 2 := by have := owned_len p; omega
  have Hn2 := hide hn2; have Hl2 := hide hl2; have Hf2 := hide (Hf1.out.tr hf2)
  clear hn2 hl2 hf2 hc1
  go_wp2_with fail
  go_loopw [5] (DisLp w2 C g gt most st sb gm X nb p) (fun i _ => (intOf i + 1).toNat)
  case atStart =>
    refine ⟨s4l, sf, by rw [Hl2.out]; exact Nat.le_refl _, rfl, ?_, Fr.refl _ _⟩
    rw [Hl2.out, Nat.sub_self]
    exact (H.out.frN Hf2.out).since (fun b hb => .inl hb) (fun b hb => Hf2.out.lt (HCl.out b hb)) (Nat.le_refl _)
  case round =>
    obtain ⟨m, sf1, hm, rfl, hcore, hfr⟩ := hrel
    rw [← Hl2.out] at hm hcore
    have Hfr := hide hfr
    have hs4 : Hid (∀ (x : Nat), x = s4l → x ≤ 2) := hide (fun x e => by omega)
    cases m with
    | succ i =>
      have hx : (ownedL p)[i]? = some ((ownedL p)[i]'(by have := Hl2.out; omega)) := List.getElem?_eq_getElem _
      generalize (ownedL p)[i] = o at hx
      have hno4 : ∀ b, ownB ⟨s4a, s4l, s4c⟩ b → ¬ C b := fun b hb hC => by have := Hn2.out.2 b hb; have := HCl.out b hC; have := Hf1.out.size; omega
      obtain ⟨b, hb, _, hcx, _⟩ := own_at (Hn2.out.frS Hfr.out hno4).1 PrefixM.length hx
      simp only at hb
      subst hb
      obtain ⟨k, hk⟩ : ∃ k, s4l - (i + 1) = k := ⟨_, rfl⟩
      have hxr : (ownedL p).reverse[k]? = some o := by
        rw [List.getElem?_reverse (by have := Hl2.out; omega), ← hx]
        congr 1
        have := Hl2.out
        omega
      have hk1 : s4l - i = k + 1 := by omega
      rw [hk] at hcore
      obtain ⟨Y, hY⟩ : ∃ Y, dnO X p k = Y := ⟨_, rfl⟩
      have hda := Hdis.out k o hxr
      have hstep := dnO_succ X p hxr
      rw [hY] at hcore hda hstep
      have Hcore := hide hcore; have Hda := hide hda; have Hstep := hide hstep; have Hk1 := hide hk1
      have Hi := hide (show i < s4l from by omega)
      have Hk2 := hide (show k + 1 ≤ 2 from by omega)
      have he : ((i + 1 : Nat) : Int) - 1 = (i : Int) := by omega
      have hii : (i : Int) < (s4l : Int) := by omega
      have hmul : ((i : Int) * 2).toNat = i * 2 := by omega
      rw [he]
      clear he hx hxr hk hk1 hcore hda hstep hY hm hfr
      go_upto_region 6 with (first | (refine wpList_load_atw rfl 28 (.tmp 20) rfl b (i * 2) (by go_simp) o.cells hcx _ Try.underlying28 rfl (by kernel_rfl) ?_) | (refine wpList_store_new rfl 28 _ _ rfl _ _ (PrefixM.cells _) _ rfl rfl (by simp) (by kernel_rfl) rfl (by kernel_rfl) ?_))
      refine wp_gen (fun W => CellsAt W wr.heap.size 0 o.cells ∧ Fr noB wr W) ⟨by (repeat (first | assumption | exact cells_new _ _ _ (by simp) | refine CellsAt.alloc ?_ _ | refine CellsAt.drew ?_ | refine CellsAt.drewN ?_ _)), by first | exact (Fr.refl _ _).alloc _ | exact ((Fr.refl _ _).alloc _).drew⟩ ?_
      rintro w3 ⟨hc3, hf3⟩
      have hco := Hcore.out.frN hf3
      obtain ⟨c, hcv, hc1⟩ := Hda.out.own
      have hcb : c ≤ (nb + k : Nat) := (hco.pos o c hcv).2
      have Hc3 := hide hc3; have Hf3 := hide hf3; have Hco := hide hco; have Hcv := hide hcv; have Hcb := hide hcb
      have hgm := hco.map
      have hgne : g ≠ gm := blk_ne_map hco.blk hgm.kmap
      have hcm : c < 9223372036854775807 := by have := Hnb.out; have := Hk2.out; omega
      have hone : ¬ oneB gm wr.heap.size := fun e => by unfold oneB at e; have := Hcore.out.map.lt; omega
      have d7 : ∀ z : Holds (fun W => Fr (oneB gm) w3 W ∧ ∃ n f, KMapS PrefixM.cells W gm n f ∧ (f o).getD 0 = c), z.v.cell? ⟨g, 7, none⟩ = some (.map (some gm)) := fun z => (hco.blk.fr z.has.1 (fun e => hgne (by unfold oneB at e; exact e))).cell 7
      have hcd : (Y.own o).getD 0 = c := by rw [hcv]; rfl
      haveI : Nonempty (Holds (fun W => Fr (oneB gm) w3 W ∧ ∃ n f, KMapS PrefixM.cells W gm n f ∧ (f o).getD 0 = c)) := ⟨⟨w3, Fr.refl _ _, _, _, hgm, hcd⟩⟩
      have Hgm := hide hgm; have Hcd := hide hcd; have Hgne := hide hgne
      clear hc3 hf3 hco hcv hcb hgm hgne hcd hcx
      simp only [Act.put, List.setIfInBounds_toArray, List.set_cons_succ, List.set_cons_zero]
      refine wp_region_mixT 9 (fun W => ∃ z : Holds (fun W => Fr (oneB gm) w3 W ∧ ∃ n f, KMapS PrefixM.cells W gm n f ∧ (f o).getD 0 = c), W = z.v) (by kernel_rfl) (by kernel_rfl) ⟨⟨w3.drew, (Fr.refl _ _).drew, _, _, Hgm.out.fr (Fr.refl noB _).drew (fun h => h), Hcd.out⟩, rfl⟩ ?_
      simp only [List.take_succ_cons, List.take_zero, List.drop_succ_cons, List.drop_zero]
      iterate 4 (first | (refine wpMix_skip rfl ?_; simp only [Act.put, List.setIfInBounds_toArray, List.set_cons_succ, List.set_cons_zero]) | (refine wpMix_calm rfl rfl (fun K hK => ?_); go_big_quiet_op; refine hK _ ?_; clear hK K))
      refine wpMix_load_atw rfl 28 (.tmp 6) rfl wr.heap.size 0 rfl o.cells (fun W hW => by obtain ⟨z, rfl⟩ := hW; exact Hc3.out.fr z.has.1 hone) _ Try.underlying28 rfl (by kernel_rfl) ?_
      simp only [Act.put, List.setIfInBounds_toArray, List.set_cons_succ, List.set_cons_zero]
      refine wpMix_klook rfl (.tmp 25) (.tmp 26) rfl prefix_fit Try.underlying90 rfl o rfl rfl c (fun W hW => by obtain ⟨z, rfl⟩ := hW; exact z.has.2) ?_
      simp only [Act.put, List.setIfInBounds_toArray, List.set_cons_succ, List.set_cons_zero]
      iterate 1 (first | (refine wpMix_skip rfl ?_; simp only [Act.put, List.setIfInBounds_toArray, List.set_cons_succ, List.set_cons_zero]) | (refine wpMix_calm rfl rfl (fun K hK => ?_); go_big_quiet_op; refine hK _ ?_; clear hK K))
      refine wpMix_mapEntry rfl (.tmp 25) (.tmp 26) rfl prefix_fit Try.underlying90 rfl o rfl rfl (Hgm.out.fr (Fr.refl noB _).drew (fun h => h)) ?_
      intro v0 stp w4 hf4 hs4 hm4 hst4
      have hf34 : Fr (oneB gm) w3 w4 := ((Fr.refl (oneB gm) w3).drew).tr hf4
      refine ⟨⟨⟨w4, hf34, _, _, hm4, by unfold upd; rw [if_pos rfl]; exact Hcd.out⟩, rfl⟩, ?_⟩
      simp only [Act.put, List.setIfInBounds_toArray, List.set_cons_succ, List.set_cons_zero]
      iterate 1 (first | (refine wpMix_skip rfl ?_; simp only [Act.put, List.setIfInBounds_toArray, List.set_cons_succ, List.set_cons_zero]) | (refine wpMix_calm rfl rfl (fun K hK => ?_); go_big_quiet_op; refine hK _ ?_; clear hK K))
      refine wpMix_nil ?_
      obtain ⟨w5, hr5, hm5, hf5, hs5⟩ := hst4 w4 (c - 1) rfl
      have hf35 : Fr (oneB gm) w3 w5 := hf34.tr hf5
      refine wpList_entryStore rfl (.tmp 25) (.tmp 30) (.tmp 28) rfl stp (c - 1) rfl rfl rfl hr5 ?_
      have d7' : ∀ z : Grow w5, z.v.cell? ⟨g, 7, none⟩ = some (.map (some gm)) := fun z => (Hco.out.blk.fr (hf35.tr (z.fr.mono (fun _ _ h => h.elim))) (fun e => Hgne.out (by unfold oneB at e; exact e))).cell 7
      rw [Hcv.out] at hm5
      simp only [Option.isSome_some, if_true] at hm5
      have Hm5 := hide hm5; have Hf35 := hide hf35
      have Hc5 := hide (Hc3.out.fr hf35 hone)
      clear hm5 hr5 hf5 hs5 hst4 hm4 hs4 hf4 hf34 hf35 d7 hone
      simp only [Act.put, List.setIfInBounds_toArray, List.set_cons_succ, List.set_cons_zero]
      go_upto_region 7 with (fail)
      refine wp_region_mix (fun W => ∃ z : Grow w5, W = z.v) (by kernel_rfl) (by kernel_rfl) (inGrow (Fr.refl _ _).drew) ?_
      iterate 4 (first | (refine wpMix_skip rfl ?_; simp only [Act.put, List.setIfInBounds_toArray, List.set_cons_succ, List.set_cons_zero]) | (refine wpMix_calm rfl rfl (fun K hK => ?_); go_big_quiet_op; refine hK _ ?_; clear hK K))
      refine wpMix_load_atw rfl 28 (.tmp 6) rfl wr.heap.size 0 rfl o.cells (fun W hW => by obtain ⟨z, rfl⟩ := hW; exact Hc5.out.fr z.fr (fun h => h)) _ Try.underlying28 rfl (by kernel_rfl) ?_
      simp only [Act.put, List.setIfInBounds_toArray, List.set_cons_succ, List.set_cons_zero]
      refine wpMix_klook rfl (.tmp 34) (.tmp 35) rfl prefix_fit Try.underlying90 rfl o rfl rfl (c - 1) (fun W hW => by obtain ⟨z, rfl⟩ := hW; exact ⟨_, _, Hm5.out.fr z.fr (fun h => h), by unfold upd; rw [if_pos rfl]; rfl⟩) ?_
      simp only [Act.put, List.setIfInBounds_toArray, List.set_cons_succ, List.set_cons_zero]
      iterate 1 (first | (refine wpMix_skip rfl ?_; simp only [Act.put, List.setIfInBounds_toArray, List.set_cons_succ, List.set_cons_zero]) | (refine wpMix_calm rfl rfl (fun K hK => ?_); go_big_quiet_op; refine hK _ ?_; clear hK K))
      refine wpMix_nil ?_
      have HCl2 := hide (show ∀ b, C b → b < w2.heap.size from fun b hb => Hf2.out.lt (HCl.out b hb))
      by_cases hbig : 1 < c
      · rw [decide_eq_true hbig]
        have HE := hide (show dnO X p (k + 1) = ⟨Y.S, upd Y.own o (c - 1), Y.n⟩ from by rw [Hstep.out]; unfold TS.disStep; rw [Hcd.out, if_pos (by omega)]; rfl)
        obtain ⟨hco5, hfr5⟩ := Hco.out.mapX Hm5.out Hf35.out (nb' := nb + (k + 1)) (by omega) (by have := Hnb.out; have := Hk2.out; omega) (fun o' c' e => by
          unfold upd at e
          split at e
          · have := Option.some.inj e; have := Hcb.out; omega
          · have := Hco.out.pos o' c' e; omega)
        have HFr5 := hide (show Fr C w2 w5 from Hfr.out.gr ((Hf3.out.mono (fun _ _ h => h.elim)).tr hfr5))
        have Hco5 := hide hco5
        clear hbig d7' hco5 hfr5
        go_wp2_with fail
        go_roundw
        case rel =>
          refine ⟨i, sf1, by have := Hi.out; have := Hl2.out; omega, by go_num, ?_, HFr5.out.drew⟩
          rw [← Hl2.out, Hk1.out, HE.out]
          exact (Hco5.out.frN (Fr.refl noB _).drew).since (fun b hb => hb.elim .inl (fun h => .inr h.1)) HCl2.out HFr5.out.drew.size
        case measure => simp [intOf] <;> omega
      · rw [decide_eq_false hbig]
        have HE := hide (show dnO X p (k + 1) = ⟨Y.S.disown1 (locO Y.S o), delO Y.own o, Y.n - 1⟩ from by rw [Hstep.out]; unfold TS.disStep; rw [Hcd.out, if_neg (by omega)])
        clear hbig
        go_upto_region 8 with (fail)
        refine wp_region_mixT 5 (fun W => ∃ z : Grow w5, W = z.v) (by kernel_rfl) (by kernel_rfl) (inGrow (Fr.refl _ _).drew.drew) ?_
        simp only [List.take_succ_cons, List.take_zero, List.drop_succ_cons, List.drop_zero]
        iterate 4 (first | (refine wpMix_skip rfl ?_; simp only [Act.put, List.setIfInBounds_toArray, List.set_cons_succ, List.set_cons_zero]) | (refine wpMix_calm rfl rfl (fun K hK => ?_); go_big_quiet_op; refine hK _ ?_; clear hK K))
        refine wpMix_load_atw rfl 28 (.tmp 6) rfl wr.heap.size 0 rfl o.cells (fun W hW => by obtain ⟨z, rfl⟩ := hW; exact Hc5.out.fr z.fr (fun h => h)) _ Try.underlying28 rfl (by kernel_rfl) ?_
        simp only [Act.put, List.setIfInBounds_toArray, List.set_cons_succ, List.set_cons_zero]
        refine wpMix_nil ?_
        refine wpList_kdeleteS rfl (.tmp 41) (.tmp 42) rfl prefix_fit Try.underlying90 o rfl rfl (Hm5.out.fr (Fr.refl noB _).drew.drew (fun h => h)) ?_
        intro w6 hm6 hf6 hs6
        have hf36 : Fr (oneB gm) w3 w6 := Hf35.out.tr ((Fr.refl (oneB gm) w5).drew.drew.tr hf6)
        rw [show (upd Y.own o (c - 1) o).isSome = true from by unfold upd; rw [if_pos rfl]; rfl, if_pos rfl, show del (upd Y.own o (c - 1)) o = delO Y.own o from by funext x; unfold del upd delO; split <;> rfl] at hm6
        obtain ⟨hco6, hfr6⟩ := Hco.out.mapX hm6 hf36 (nb' := nb + (k + 1)) (by omega) (by have := Hnb.out; have := Hk2.out; omega) (fun o' c' e => by
          unfold delO at e
          split at e
          · simp at e
          · have := Hco.out.pos o' c' e; omega)
        have hone : ¬ oneB gm wr.heap.size := fun e => by unfold oneB at e; have := Hcore.out.map.lt; omega
        have hc6 := Hc3.out.fr hf36 hone
        have HFr6 := hide (show Fr C w2 w6 from Hfr.out.gr ((Hf3.out.mono (fun _ _ h => h.elim)).tr hfr6))
        have Hco6 := hide hco6
        obtain ⟨n, hn⟩ : ∃ n, (Y.S.get (locO Y.S o)).block = n + 1 := ⟨(Y.S.get (locO Y.S o)).block - 1, by have := Hda.out.blk.1; omega⟩
        have hnl : n < Y.S.blk.length := by have := Hda.out.blk.2; omega
        obtain ⟨gB, hgB, _⟩ := Hco6.out.blsAt hnl
        obtain ⟨ba, bl, bc⟩ := sb
        obtain ⟨fa, fl, fc⟩ := sf1
        simp only at hgB
        subst hgB
        have hbl : bl = Y.S.blk.length := Hco6.out.bls.1
        have hfl : fl = Y.S.free.length := Hco6.out.fre.1
        have hlen : Y.S.blk.length ≤ nb + (k + 1) ∧ Y.S.free.length ≤ nb + (k + 1) ∧ nb + (k + 1) ≤ 1000000 := Hco6.out.len.2
        have Hfree := hide (show Y.S.free.length ≤ nb + k from Hco.out.len.2.2.1)
        have hnb1 : n < bl := by omega
        have hn1 : n ≤ 1000000 := by omega
        have Hn := hide hn; have Hnl := hide hnl; have Hlen := hide hlen; have Hfl := hide hfl
        clear hm6 hf6 hs6 hf36 hco6 hfr6 hone d7' hn hnl hlen hbl hcm hc1 hfl
        simp only [Act.put, List.setIfInBounds_toArray, List.set_cons_succ, List.set_cons_zero]
        go_wp2_with (refine wpList_load_at rfl 28 (.tmp 6) rfl wr.heap.size 0 rfl o.cells hc6 _ Try.underlying28 rfl (by kernel_rfl) ?_)
        obtain ⟨hL7, hcall⟩ := dir_atO w6 _ g gt most st ⟨some ⟨gB, 0, none⟩, bl, bc⟩ ⟨fa, fl, fc⟩ gm _ (nb + (k + 1)) Hco6.out Hda.out.at_
        have HL7 := hide hL7
        refine hcall.mono ?_
        rintro e w8 ⟨bx, off, hax, rfl, hf8⟩
        obtain ⟨L, hL⟩ : ∃ L, locO Y.S o = L := ⟨_, rfl⟩
        have Hc8 := hide (Hco6.out.frN hf8); have Hf8 := hide hf8
        have HA8 := hide (show adr st ⟨some ⟨gB, 0, none⟩, bl, bc⟩ L = some ⟨bx, off, none⟩ from by rw [← hL]; exact hax)
        have HL8 := hide (show Y.S.has L from by rw [← hL]; exact HL7.out)
        rw [hL] at Hn HE
        obtain ⟨b9, off9, ha9, hcl9, hC9, hbg9, hfz9⟩ := Hc8.out.get (L := L) HL8.out
        rw [HA8.out] at ha9
        simp only [Option.some.injEq, Addr.mk.injEq, and_true] at ha9
        obtain ⟨rfl, rfl⟩ := ha9
        obtain ⟨b10, off10, ha10, hcl10, hC10, _⟩ := Hc8.out.get (L := .b n 0) ⟨Hnl.out, by decide⟩
        simp only [adr, Option.map_some, Option.some.injEq, Addr.mk.injEq, and_true] at ha10
        obtain ⟨rfl, rfl⟩ := ha10
        have y2 : w8.cell? ⟨bx, off + 2, none⟩ = some (.int .i32 (n + 1 : Nat)) := by have := hcl9 2 _ rfl; rw [Hn.out] at this; exact this
        have d5 : w8.cell? ⟨g, 5, none⟩ = some (.slice (some ⟨gB, 0, none⟩) bl bc) := Hc8.out.blk.cell 5
        have hmul2 : ((n : Int) * 768).toNat = n * 768 := by omega
        have hn2 : ((n + 1 : Nat) : Int) - 1 = (n : Int) := by omega
        have hnx2 : (n : Int) < (bl : Int) := by omega
        have Hcl10 := hide hcl10
        clear hax hf8 hL7 hcall hc6 hL hcl9 hcl10 hC9 hC10 hbg9 hfz9
        go_upto_region 11 with (fail)
        clear y2
        go_upto_region 12 with (first | (refine wpList_load_at rfl 111 (.tmp 58) rfl gB (n * 768 + 0 * 3) (by go_simp) (Y.S.b n 0).cells Hcl10.out _ Try.underlying111 rfl (by kernel_rfl) ?_) | (refine wpList_store_core rfl (.tmp 60) (.tmp 59) rfl bx off (Y.S.b n 0) rfl rfl Hc8.out HL8.out HA8.out ?_; intro w9 hc9 hf9 hs9; have Hc9 := hide hc9; have Hf9 := hide (Hf8.out.mono (fun _ _ h => h.elim) |>.tr hf9); clear hc9 hf9 hs9))
        have d6 : w9.cell? ⟨g, 6, none⟩ = some (.slice fa fl fc) := Hc9.out.blk.cell 6
        clear d5
        have hfb : fl ≤ 1000000 := by have := Hfl.out; have := Hlen.out; omega
        have hfb2 : Y.S.free.length ≤ 1000000 := by have := Hlen.out; omega
        have hp9 : ((⟨Y.S, delO Y.own o, Y.n - 1⟩ : TS).putS L (Y.S.b n 0)).S.free = Y.S.free := (put_lens Y.S L (Y.S.b n 0)).2.2
        have hfo : OwnL w9 21 1 frC ⟨fa, fl, fc⟩ Y.S.free := by have := Hc9.out.fre; rwa [hp9] at this
        have Hfo := hide hfo; have Hp9 := hide hp9
        clear hfo hp9
        go_upto_region 4 with (first
          | (refine wpList_buildSlice rfl 104 1 _ rfl #[(0, .int .i32 (n : Nat))] (by kernel_rfl) Try.underlying104 (.int .i32 0) 1 (by kernel_rfl) #[.int .i32 (n : Nat)] (by decide) (by decide) (by kernel_rfl) ?_)
          | (refine wpList_append_rows (N := 1) (cells := frC) (s := ⟨fa, fl, fc⟩) (xs := Y.S.free) (q := ⟨some ⟨w9.heap.size, 0, none⟩, 1, 1⟩) (ys := [n]) (ok := fun _ => True) rfl (.tmp 65) (.tmp 67) 104 rfl Try.underlying104 _ 4 int32_info (by kernel_rfl) (by decide) frC_length frC_mem rfl (Hfo.out.fr ((Fr.refl noB w9).alloc _) (fun _ _ h => h)) rfl (slof_one (w := w9) (ok := fun _ => True) (x := n) frC_length 21 trivial) (fun h => by simp at h) (by simp [maxLen]; omega) (by simp; omega) ?_; intro s6 w10 hown6 hf6 hor; have Hown6 := hide hown6; have Hf6 := hide (((Fr.refl (ownB ⟨fa, fl, fc⟩) w9).alloc _).tr hf6); have Hor := hide hor; have y5 : w10.cell? ⟨g, 6, none⟩ = some (.slice fa fl fc) := (Hc9.out.blk.fr Hf6.out (own_ne_blk Hc9.out.blk Hfo.out (by decide))).cell 6; have z5 : w10.frozen? ⟨g, 6, none⟩ = false := (Hc9.out.blk.fr Hf6.out (own_ne_blk Hc9.out.blk Hfo.out (by decide))).free 6; clear hown6 hf6 hor; obtain ⟨f6a, f6l, f6c⟩ := s6))
        refine wp_gen (fun W => (∃ sf', CoreAt W (gr C w2 W) g gt most st ⟨some ⟨gB, 0, none⟩, bl, bc⟩ sf' gm (dnO X p (k + 1)) (nb + (k + 1))) ∧ Fr C w2 W) ?_ ?_
        · obtain ⟨k1, k2⟩ := Hc9.out.pushFree (n := n) (sf' := ⟨f6a, f6l, f6c⟩) (by rw [Hp9.out]; have := Hfree.out; omega) (by rw [Hp9.out]; exact Hown6.out) Hf6.out (by
            rcases Hor.out with ⟨e, _⟩ | ⟨g', e, hg, _⟩
            · exact .inl e
            · refine .inr ⟨g', e, ?_⟩
              simp at hg
              omega)
          have hX := (Hf9.out).tr k2
          have hF := Fr.trans (U := C) HFr6.out hX (fun _ _ h => h) (fun b hb h => by
            rcases h with h | h
            · exact h
            · omega)
          refine ⟨⟨⟨f6a, f6l, f6c⟩, ?_⟩, hF⟩
          have hD : Y.S.disown1 L = { (Y.S.put L (Y.S.b n 0)) with free := (Y.S.put L (Y.S.b n 0)).free ++ [n] } := by
            unfold DS.disown1
            rw [Hn.out, Nat.add_sub_cancel, (put_lens Y.S L (Y.S.b n 0)).2.2]
          rw [HE.out, hD]
          exact k1.since (fun b hb => by
            have := HFr6.out.size
            have := Hf9.out.size
            rcases hb with (h | h) | h
            · exact .inl h
            · exact .inr h.1
            · exact .inr (by omega)) HCl2.out hF.size
        · rintro w11 ⟨⟨sf', hc11⟩, hf11⟩
          have Hc11 := hide hc11; have Hf11 := hide hf11
          clear hc11 hf11 y5 z5
          go_wp2_with fail
          go_roundw
          case rel =>
            refine ⟨i, sf', by have := Hi.out; have := Hl2.out; omega, by go_num, ?_, Hf11.out⟩
            rw [← Hl2.out, Hk1.out]
            exact Hc11.out
          case measure => simp [intOf] <;> omega
    | zero =>
      go_wp2_with fail
      first | go_end0 | (refine bodyPost_ret (results_none rfl _ _ _) rfl ?_) | (simp only [Exit.inBlock, Exit.then]; refine bodyPost_ret (results_none rfl _ _ _) rfl ?_)
      have hs := Hfr.out.size
      have hs2 := Hf2.out.size
      refine ⟨rfl, ⟨sb, sf1, ?_⟩, Fr.trans Hf2.out Hfr.out (fun _ _ h => h.elim) (fun _ _ h => h)⟩
      rw [← dnO_all, ← Hl2.out]
      exact (hcore.up (by omega) Hnb.out).since (fun b hb => hb.elim .inl (fun h => .inr (by omega))) HCl.out (by omega)
end Go.Proofs.Ytgjabgneapdbiaa
