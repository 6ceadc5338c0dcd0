/- dir.own: a prefix's blocks are there. -/
import Derived.Test.YtgjabgneapdbiaaDirOwnA
namespace Go.Proofs.Ytgjabgneapdbiaa
open Go.RowKit Go.BigFrame
set_option linter.unusedSimpArgs false
set_option linter.unusedVariables false
attribute [local irreducible] wpMix wpAnyG
attribute [local irreducible] blkC

/-- own, behind k of the blocks. -/
def OwnAt (w0 : World) (C : Nat → Prop) (g gt : Nat) (most : Int) (st : SlV) (gm : Nat) (X : TS) (nb : Nat) (p : PrefixM) (iv : Value) (wr : World) : Prop :=
  ∃ (k : Nat) (sb sf : SlV), k ≤ (ownedL p).length ∧ iv = .int .i64 k ∧ CoreAt wr (gr C w0 wr) g gt most st sb sf gm (upO X p k) (nb + k) ∧ Fr C w0 wr
/-- own, with j places of a new block filled. -/
def FillAt (w0 : World) (C : Nat → Prop) (g gt : Nat) (most : Int) (st sb sf : SlV) (gm : Nat) (Y : TS) (nb n : Nat) (x : PlM) (iv : Value) (wr : World) : Prop :=
  ∃ j : Nat, j ≤ 256 ∧ iv = .int .i64 j ∧ CoreAt wr C g gt most st sb sf gm { Y with S := Y.S.fillJ n j x } nb ∧ Fr C w0 wr

def NewAt (w5 : World) (F : Nat → Prop) (g gt : Nat) (most : Int) (st : SlV) (gm : Nat) (Z : TS) (nb : Nat) (W : World) : Prop := ∃ sb sf, CoreAt W (gr F w5 W) g gt most st sb sf gm Z nb ∧ Fr F w5 W

set_option maxRecDepth 100000 in
set_option maxHeartbeats 16000000 in
theorem dir_own (w : World) (C : Nat → Prop) (g gt : Nat) (most : Int) (st sb sf : SlV) (gm : Nat) (X : TS) (nb : Nat) (h : CoreAt w C g gt most st sb sf gm X nb) (hnb : nb + 2 ≤ 1000000) {lab : Nat → Lb} (hw : Wf X.S lab) (u : InU X.S X.own) (p : PrefixM) (hp : okP p) (hpw : p.wf) :
    Calls Try.prog 65 #[.pointer (some ⟨g, 0, none⟩), .agg p.cells.toArray] w fun e w' => e = .returned (.tuple #[]) ∧ (∃ sb' sf', CoreAt w' (gr C w w') g gt most st sb' sf' gm (X.ownAll p) (nb + 2)) ∧ Fr C w w' := by
  have H := hide h; have Hup := hide (own_upto hw u (fun o c e => (h.pos o c e).1) hpw.1); have Hp := hide hpw; have Hnb := hide hnb
  have HCl := hide h.lt
  clear h hw u hp hpw hnb
  go_enter Try.func65, Try.ntmps65
  go_upto_region 1 with (fail)
  refine wp_gen (fun W => CellsAt W w.heap.size 0 p.cells ∧ Fr noB w W) ⟨by (repeat (first | assumption | exact cells_new _ _ _ (by simp) | refine CellsAt.alloc ?_ _ | refine CellsAt.drew ?_ | refine CellsAt.drewN ?_ _)), (Fr.refl _ _).alloc _⟩ ?_
  rintro w1 ⟨hc1, hf1⟩
  have Hf1 := hide hf1
  clear hf1
  go_wp2_with (refine wpList_load_at rfl 28 (.tmp 3) rfl w.heap.size 0 rfl p.cells hc1 _ Try.underlying28 rfl (by kernel_rfl) ?_)
  refine (dir_owned p Hp.out w1).mono ?_
  rintro e w2 ⟨⟨s4a, s4l, s4c⟩, rfl, hn2, hf2⟩
  have hl2 : s4l = (ownedL p).length := hn2.len
  have h2 : s4l ≤ 2 := by have := owned_len p; omega
  have Hn2 := hide hn2; have Hl2 := hide hl2; have Hf2 := hide (Hf1.out.tr hf2)
  clear hn2 hl2 hf2 hc1
  go_wp2_with fail
  go_loopw [13] (OwnAt w2 C g gt most st gm X nb p) (fun i _ => s4l - (intOf i).toNat)
  case atStart => exact ⟨0, sb, sf, Nat.zero_le _, rfl, (H.out.frN Hf2.out).since (fun b hb => .inl hb) (fun b hb => Hf2.out.lt (HCl.out b hb)) (Nat.le_refl _), Fr.refl _ _⟩
  case round =>
    obtain ⟨k, sb1, sf1, hk, rfl, hcore, hfr⟩ := hrel
    have Hcore := hide hcore; have Hfr := hide hfr
    clear hcore hfr
    by_cases hlt : k < s4l
    · have hx : (ownedL p)[k]? = some ((ownedL p)[k]'(by have := Hl2.out; omega)) := List.getElem?_eq_getElem _
      generalize (ownedL p)[k] = o at hx
      have hno4 : ∀ b, ownB ⟨s4a, s4l, s4c⟩ b → ¬ C b := fun b hb hC => by have := Hn2.out.2 b hb; have := HCl.out b hC; have := Hf1.out.size; omega
      obtain ⟨b, hb, _, hcx, _⟩ := own_at (Hn2.out.frS Hfr.out hno4).1 PrefixM.length hx
      simp only at hb
      subst hb
      obtain ⟨⟨lab1, hw1⟩, hu1, hp1, ho1⟩ := Hup.out k
      have ho := ho1 o hx
      have Hw := hide hw1; have Hu := hide hu1; have Hpos := hide hp1; have Ho := hide ho; have Hat := hide (ho.at hw1 hu1)
      have Hstep := hide (upO_succ X p hx)
      have Hcx := hide hcx; have Hlt := hide hlt
      have hmul : ((k : Int) * 2).toNat = k * 2 := by omega
      clear hx hk hw1 hu1 hp1 ho1 ho
      go_upto_region 4 with (first | (refine wpList_load_atw rfl 28 (.tmp 15) rfl b (k * 2) (by go_simp) o.cells hcx _ Try.underlying28 rfl (by kernel_rfl) ?_) | (refine wpList_store_new rfl 28 _ _ rfl _ _ (PrefixM.cells _) _ rfl rfl (by simp) (by kernel_rfl) rfl (by kernel_rfl) ?_))
      refine wp_gen (fun W => CellsAt W wr.heap.size 0 o.cells ∧ Fr noB wr W) ⟨by (repeat (first | assumption | exact cells_new _ _ _ (by simp) | refine CellsAt.alloc ?_ _ | refine CellsAt.drew ?_ | refine CellsAt.drewN ?_ _)), by first | exact (Fr.refl _ _).alloc _ | exact ((Fr.refl _ _).alloc _).drew⟩ ?_
      rintro w3 ⟨hc3, hf3⟩
      obtain ⟨Y, hY⟩ : ∃ Y, upO X p k = Y := ⟨_, rfl⟩
      rw [hY] at Hcore Hw Hu Hpos Ho Hat Hstep
      have hco := Hcore.out.frN hf3
      have Hc3 := hide hc3; have Hf3 := hide hf3; have Hco := hide hco; have HY := hide hY
      clear hY hcx
      obtain ⟨c, hcv⟩ : ∃ c, (Y.own o).getD 0 = c := ⟨_, rfl⟩
      have hcb : 0 ≤ c ∧ c ≤ (nb + k : Nat) := by
        cases hoo : Y.own o with
        | none => rw [hoo] at hcv; simp only [Option.getD_none] at hcv; omega
        | some v => rw [hoo] at hcv; simp only [Option.getD_some] at hcv; have := hco.pos o v hoo; omega
      have Hcv := hide hcv; have Hcb := hide hcb
      have hgm := hco.map
      have hgne : g ≠ gm := blk_ne_map hco.blk hgm.kmap
      have hb7 := Hcore.out.blk
      have hc1m : c + 1 < 9223372036854775807 := by have := Hnb.out; omega
      have hc0 : 0 ≤ c := hcb.1
      have hone : ¬ oneB gm wr.heap.size := fun e => by unfold oneB at e; have := Hcore.out.map.lt; omega
      have d7 : ∀ z : Holds (fun W => Fr (oneB gm) w3 W ∧ ∃ n f, KMapS PrefixM.cells W gm n f ∧ (f o).getD 0 = c), z.v.cell? ⟨g, 7, none⟩ = some (.map (some gm)) := fun z => (hco.blk.fr z.has.1 (fun e => hgne (by unfold oneB at e; exact e))).cell 7
      haveI : Nonempty (Holds (fun W => Fr (oneB gm) w3 W ∧ ∃ n f, KMapS PrefixM.cells W gm n f ∧ (f o).getD 0 = c)) := ⟨⟨w3, Fr.refl _ _, _, _, hgm, hcv⟩⟩
      have Hgm := hide hgm
      clear hc3 hf3 hco hcv hcb hgm hgne hb7
      simp only [Act.put, List.setIfInBounds_toArray, List.set_cons_succ, List.set_cons_zero]
      refine wp_region_mixT 9 (fun W => ∃ z : Holds (fun W => Fr (oneB gm) w3 W ∧ ∃ n f, KMapS PrefixM.cells W gm n f ∧ (f o).getD 0 = c), W = z.v) (by kernel_rfl) (by kernel_rfl) ⟨⟨w3.drew, (Fr.refl _ _).drew, _, _, Hgm.out.fr (Fr.refl noB _).drew (fun h => h), Hcv.out⟩, rfl⟩ ?_
      simp only [List.take_succ_cons, List.take_zero, List.drop_succ_cons, List.drop_zero]
      iterate 4 (first | (refine wpMix_skip rfl ?_; simp only [Act.put, List.setIfInBounds_toArray, List.set_cons_succ, List.set_cons_zero]) | (refine wpMix_calm rfl rfl (fun K hK => ?_); go_big_quiet_op; refine hK _ ?_; clear hK K))
      refine wpMix_load_atw rfl 28 (.tmp 5) rfl wr.heap.size 0 rfl o.cells (fun W hW => by obtain ⟨z, rfl⟩ := hW; exact Hc3.out.fr z.has.1 hone) _ Try.underlying28 rfl (by kernel_rfl) ?_
      simp only [Act.put, List.setIfInBounds_toArray, List.set_cons_succ, List.set_cons_zero]
      refine wpMix_klook rfl (.tmp 20) (.tmp 21) rfl prefix_fit Try.underlying90 rfl o rfl rfl c (fun W hW => by obtain ⟨z, rfl⟩ := hW; exact z.has.2) ?_
      simp only [Act.put, List.setIfInBounds_toArray, List.set_cons_succ, List.set_cons_zero]
      iterate 1 (first | (refine wpMix_skip rfl ?_; simp only [Act.put, List.setIfInBounds_toArray, List.set_cons_succ, List.set_cons_zero]) | (refine wpMix_calm rfl rfl (fun K hK => ?_); go_big_quiet_op; refine hK _ ?_; clear hK K))
      refine wpMix_mapEntry rfl (.tmp 20) (.tmp 21) rfl prefix_fit Try.underlying90 rfl o rfl rfl (Hgm.out.fr (Fr.refl noB _).drew (fun h => h)) ?_
      intro v0 stp w4 hf4 hs4 hm4 hst4
      have hf34 : Fr (oneB gm) w3 w4 := ((Fr.refl (oneB gm) w3).drew).tr hf4
      refine ⟨⟨⟨w4, hf34, _, _, hm4, by unfold upd; rw [if_pos rfl]; exact Hcv.out⟩, rfl⟩, ?_⟩
      simp only [Act.put, List.setIfInBounds_toArray, List.set_cons_succ, List.set_cons_zero]
      iterate 1 (first | (refine wpMix_skip rfl ?_; simp only [Act.put, List.setIfInBounds_toArray, List.set_cons_succ, List.set_cons_zero]) | (refine wpMix_calm rfl rfl (fun K hK => ?_); go_big_quiet_op; refine hK _ ?_; clear hK K))
      refine wpMix_nil ?_
      obtain ⟨w5, hr5, hm5, hf5, hs5⟩ := hst4 w4 (c + 1) rfl
      have hf35 : Fr (oneB gm) w3 w5 := hf34.tr hf5
      obtain ⟨hco5, hfr5⟩ := Hco.out.mapX hm5 hf35 (nb' := nb + (k + 1)) (by omega) (by have := Hnb.out; omega) (fun o' c' e => by
        unfold upd at e
        split at e
        · have := Option.some.inj e; have := Hcb.out; omega
        · have := Hco.out.pos o' c' e; omega)
      refine wpList_entryStore rfl (.tmp 20) (.tmp 25) (.tmp 23) rfl stp (c + 1) rfl rfl rfl hr5 ?_
      have d7' : ∀ z : Grow w5, z.v.cell? ⟨g, 7, none⟩ = some (.map (some gm)) := fun z => (hco5.blk.fr z.fr (fun h => h)).cell 7
      have hm6 : KMapS PrefixM.cells w5 gm _ _ := hm5
      have Hm5 := hide hm5; have Hco5 := hide hco5; have Hf5 := hide (show Fr (gr C w2 wr) w3 w5 from hfr5)
      have Hc5 := hide (Hc3.out.fr hf35 hone)
      clear hm5 hm6 hco5 hfr5 hr5 hf5 hs5 hst4 hm4 hs4 hf4 hf34 hf35 d7 hone
      simp only [Act.put, List.setIfInBounds_toArray, List.set_cons_succ, List.set_cons_zero]
      go_upto_region 5 with (fail)
      refine wp_region_mix (fun W => ∃ z : Grow w5, W = z.v) (by kernel_rfl) (by kernel_rfl) (inGrow (Fr.refl _ _).drew) ?_
      iterate 4 (first | (refine wpMix_skip rfl ?_; simp only [Act.put, List.setIfInBounds_toArray, List.set_cons_succ, List.set_cons_zero]) | (refine wpMix_calm rfl rfl (fun K hK => ?_); go_big_quiet_op; refine hK _ ?_; clear hK K))
      refine wpMix_load_atw rfl 28 (.tmp 5) rfl wr.heap.size 0 rfl o.cells (fun W hW => by obtain ⟨z, rfl⟩ := hW; exact Hc5.out.fr z.fr (fun h => h)) _ Try.underlying28 rfl (by kernel_rfl) ?_
      simp only [Act.put, List.setIfInBounds_toArray, List.set_cons_succ, List.set_cons_zero]
      refine wpMix_klook rfl (.tmp 29) (.tmp 30) rfl prefix_fit Try.underlying90 rfl o rfl rfl (c + 1) (fun W hW => by obtain ⟨z, rfl⟩ := hW; exact ⟨_, _, Hm5.out.fr z.fr (fun h => h), by unfold upd; rw [if_pos rfl]; rfl⟩) ?_
      simp only [Act.put, List.setIfInBounds_toArray, List.set_cons_succ, List.set_cons_zero]
      iterate 1 (first | (refine wpMix_skip rfl ?_; simp only [Act.put, List.setIfInBounds_toArray, List.set_cons_succ, List.set_cons_zero]) | (refine wpMix_calm rfl rfl (fun K hK => ?_); go_big_quiet_op; refine hK _ ?_; clear hK K))
      refine wpMix_nil ?_
      clear d7'
      have HE := hide (show upO X p (k + 1) = ⟨if c + 1 > 1 then Y.S else Y.S.own1 (locO Y.S o), upd Y.own o (c + 1), if (Y.own o).isSome then Y.n else Y.n + 1⟩ from by rw [Hstep.out]; unfold TS.ownStep; rw [Hcv.out]; rfl)
      have HFr5 := hide (show Fr C w2 w5 from Hfr.out.gr ((Hf3.out.mono (fun _ _ h => h.elim)).tr Hf5.out))
      have HCl2 := hide (show ∀ b, C b → b < w2.heap.size from fun b hb => Hf2.out.lt (HCl.out b hb))
      have Hk1 := hide (show k + 1 ≤ (ownedL p).length from by have := Hl2.out; omega)
      by_cases hbig : c + 1 > 1
      · rw [decide_eq_true hbig]
        rw [if_pos hbig] at HE
        clear hbig
        go_wp2_with fail
        go_roundw
        case rel =>
          exact ⟨k + 1, sb1, sf1, Hk1.out, by go_num, by rw [HE.out]; exact (Hco5.out.frN (Fr.refl noB _).drew).since (fun b hb => hb.elim .inl (fun h => .inr h.1)) HCl2.out HFr5.out.drew.size, HFr5.out.drew⟩
        case measure => simp [intOf]; omega
      · rw [decide_eq_false hbig]
        rw [if_neg hbig] at HE
        obtain ⟨n', hn'⟩ : ∃ n', (if (Y.own o).isSome then Y.n else Y.n + 1) = n' := ⟨_, rfl⟩
        rw [hn'] at Hco5 HE
        obtain ⟨ba, bl, bc⟩ := sb1
        obtain ⟨fa, fl, fc⟩ := sf1
        have hbl : bl = Y.S.blk.length := Hco5.out.bls.1
        have hfl : fl = Y.S.free.length := Hco5.out.fre.1
        have hlen : Y.S.blk.length ≤ nb + (k + 1) ∧ Y.S.free.length ≤ nb + (k + 1) ∧ nb + (k + 1) ≤ 1000000 := Hco5.out.len.2
        have Hlen := hide hlen; have Hbl := hide hbl
        have hb1 : bl ≤ 1000000 := by omega
        have hf1 : fl ≤ 1000000 := by omega
        have d5 : w5.drew.cell? ⟨g, 5, none⟩ = some (.slice ba bl bc) := Hco5.out.blk.cell 5
        have d6 : w5.drew.cell? ⟨g, 6, none⟩ = some (.slice fa fl fc) := Hco5.out.blk.cell 6
        clear hn' hbig hlen hbl
        rcases List.eq_nil_or_concat Y.S.free with hfree | ⟨ns, n, hfree⟩
        case' inl =>
          rw [hfree] at hfl
          simp only [List.length_nil] at hfl
          subst hfl
          have Hfree := hide hfree
          clear hfree
          go_upto_region 10 with (fail)
          have HZ := hide (take_new Hfree.out)
          have hlb := Hlen.out.1
          have hlb2 := Hlen.out.2.2
          have Hd6 := hide d6
          clear d6
          go_upto_region 11 with (first
            | (refine wpList_build_as rfl 117 #[] rfl (blkC zf).toArray (by simpa using block_built) ?_)
            | (refine wpList_buildSlice rfl 103 1 _ rfl #[(0, .agg (blkC zf).toArray)] (by kernel_rfl) Try.underlying103 (.agg (blkC zf).toArray) 768 block_info2 (blkC zf).toArray (by decide) (by decide) block_fill ?_)
            | (refine wpList_append_rows (N := 768) (cells := blkC) (s := ⟨ba, bl, bc⟩) (xs := Y.S.blk) (q := ⟨some ⟨w5.drew.heap.size, 0, none⟩, 1, 1⟩) (ys := [zf]) (ok := fun _ => True) rfl (.tmp 67) (.tmp 69) 103 rfl Try.underlying103 _ 4096 block_info (by simp [Value.cells, blkC_length]) (by decide) blkC_length blkC_mem rfl (Hco5.out.bls.fr ((Fr.refl noB _).drew.alloc _) (fun _ _ h => h)) rfl (slof_one (w := w5.drew) (ok := fun _ => True) (x := zf) blkC_length 117 trivial) (fun h => by simp at h) (by simp [maxLen]; omega) (by simp; omega) ?_; intro s6 w6 hown6 hf6 hor; have Hown6 := hide hown6; have Hf6 := hide (((Fr.refl (ownB ⟨ba, bl, bc⟩) w5).drew.alloc _).tr hf6); have Hor := hide hor; have y5 : w6.cell? ⟨g, 5, none⟩ = some (.slice ba bl bc) := (Hco5.out.blk.fr Hf6.out (own_ne_blk Hco5.out.blk Hco5.out.bls (by decide))).cell 5; have z5 : w6.frozen? ⟨g, 5, none⟩ = false := (Hco5.out.blk.fr Hf6.out (own_ne_blk Hco5.out.blk Hco5.out.bls (by decide))).free 5; clear hown6 hf6 hor; obtain ⟨b6a, b6l, b6c⟩ := s6))
          have Hn := hide (show Y.S.take.1 = bl from by rw [HZ.out]; exact Hbl.out.symm)
          have hn1 := hb1
          refine wp_gen (NewAt w5 (gr C w2 wr) g gt most st gm ⟨Y.S.take.2, upd Y.own o (c + 1), n'⟩ (nb + (k + 1))) ?_ ?_
          · obtain ⟨k1, k2⟩ := Hco5.out.pushBlk (sb' := ⟨b6a, b6l, b6c⟩) (by show Y.S.blk.length + 1 ≤ _; have := Hco.out.len.2.1; omega) Hown6.out Hf6.out (by
              rcases Hor.out with ⟨e, _⟩ | ⟨g', e, hg, _⟩
              · exact .inl e
              · refine .inr ⟨g', e, ?_⟩
                simp at hg
                have : w5.drew.heap.size = w5.heap.size := rfl
                omega)
            refine ⟨⟨b6a, b6l, b6c⟩, ⟨fa, 0, fc⟩, ?_, k2⟩
            rw [HZ.out]
            exact k1
          clear y5 z5 Hd6 hlb hlb2 hb1
          generalize bl = n at *
        case' inr =>
          rw [List.concat_eq_append] at hfree
          rw [hfree] at hfl
          simp only [List.length_append, List.length_cons, List.length_nil, Nat.zero_add] at hfl
          subst hfl
          have Hfree := hide hfree
          clear hfree
          obtain ⟨m, hm⟩ : ∃ m, ns.length = m := ⟨_, rfl⟩
          rw [hm] at d6 hf1 Hco5
          have Hm := hide hm
          clear hm
          have hm1 : ((m + 1 : Nat) : Int) - 1 = (m : Int) := by omega
          go_upto_region 9 with (fail)
          have HZ := hide (frC_nat Hfree.out)
          have hfo : OwnL w5 21 1 frC ⟨fa, m + 1, fc⟩ (ns ++ [n]) := by rw [← Hfree.out]; exact Hco5.out.fre
          obtain ⟨gF, hgF, _, hcF, _⟩ := own_at hfo frC_length (show (ns ++ [n])[m]? = some n from by rw [← Hm.out]; simp)
          simp only at hgF
          subst hgF
          have hmc : m ≤ fc := by
            rcases hfo.2 with h | ⟨_, _, _, _, _, h, _⟩
            · simp at h
            · simp only at h; omega
          have x6 : ∀ z : Grow w5, z.v.cell? ⟨gF, m, none⟩ = some (.int .i32 (n : Nat)) := fun z => by have := (hcF.fr z.fr (fun h => h)) 0 _ rfl; simpa using this
          have d6' : ∀ z : Grow w5, z.v.cell? ⟨g, 6, none⟩ = some (.slice (some ⟨gF, 0, none⟩) (m + 1 : Nat) fc) := fun z => (Hco5.out.blk.fr z.fr (fun h => h)).cell 6
          clear d5 d6 hfo hcF
          refine wp_region_mixT 17 (fun W => ∃ z : Grow w5, W = z.v) (by kernel_rfl) (by kernel_rfl) (inGrow (Fr.refl _ _).drew.drew) ?_
          simp only [List.take_succ_cons, List.take_zero, List.drop_succ_cons, List.drop_zero]
          repeat (first | (refine wpMix_skip rfl ?_; simp only [Act.put, List.setIfInBounds_toArray, List.set_cons_succ, List.set_cons_zero]) | (refine wpMix_calm rfl rfl (fun K hK => ?_); go_big_quiet_op; refine hK _ ?_; clear hK K))
          refine wpMix_nil ?_
          have y6 : w5.drew.drew.cell? ⟨g, 6, none⟩ = some (.slice (some ⟨gF, 0, none⟩) (m + 1 : Nat) fc) := Hco5.out.blk.cell 6
          have z6 : w5.drew.drew.frozen? ⟨g, 6, none⟩ = false := Hco5.out.blk.free 6
          clear d6' x6
          go_upto_region 11 with (fail)
          have Hn := hide (show Y.S.take.1 = n from by rw [HZ.out])
          have hn1 : n ≤ 1000000 := by
            have T := take_ok Hw.out
            have := T.lt; have := T.len.2; have := Hlen.out; have := Hn.out
            omega
          refine wp_gen (NewAt w5 (gr C w2 wr) g gt most st gm ⟨Y.S.take.2, upd Y.own o (c + 1), n'⟩ (nb + (k + 1))) ?_ ?_
          · obtain ⟨k1, k2⟩ := (Hco5.out.frN ((Fr.refl noB _).drew.drew)).popFree (show (Y.S.free) = ns ++ [n] from Hfree.out)
            refine ⟨⟨ba, bl, bc⟩, ⟨some ⟨gF, 0, none⟩, m, fc⟩, ?_, (Fr.refl _ _).drew.drew.tr k2⟩
            rw [HZ.out]
            exact k1.since (fun b hb => .inl hb) (Hco5.out.lt) ((Fr.refl (gr C w2 wr) w5).drew.drew.tr k2).size
          clear y6 z6 hb1 hf1 hm1 hmc
        all_goals
          rintro w7 ⟨⟨xa, xl, xc⟩, sf7, hc7, hf7⟩
          have hat7 := Hat.out.take Hw.out
          have hnlt : n < Y.S.take.2.blk.length := by rw [← Hn.out]; exact (take_ok Hw.out).lt
          have hxl : xl = Y.S.take.2.blk.length := hc7.bls.1
          have hnx : n < xl := by omega
          obtain ⟨gB, hgB, _⟩ := hc7.blsAt hnlt
          simp only at hgB
          subst hgB
          have hw0 : ¬ gr C w2 wr wr.heap.size := fun e => by
            rcases e with e | e
            · have := HCl2.out _ e; have := Hfr.out.size; omega
            · omega
          have hc57 := Hc5.out.fr hf7 hw0
          have Hc7 := hide hc7; have Hf7 := hide hf7; have Hat7 := hide hat7; have Hnlt := hide hnlt
          have Hne := hide (fun i => Hn.out ▸ own_ne Hat.out Hw.out i : ∀ i, locO Y.S.take.2 o ≠ .b n i)
          have HOwn := hide (show (Y.S.take.2.fillJ n 256 (Y.S.take.2.get (locO Y.S.take.2 o))).put (locO Y.S.take.2 o) { (Y.S.take.2.fillJ n 256 (Y.S.take.2.get (locO Y.S.take.2 o))).get (locO Y.S.take.2 o) with block := n + 1 } = Y.S.own1 (locO Y.S o) from by rw [← Hn.out]; exact own1_fill Hat.out Hw.out)
          clear hc7 hf7 hat7 hnlt hxl hw0 hc0 hc1m
          go_wp2_with (refine wpList_load_at rfl 28 (.tmp 5) rfl wr.heap.size 0 rfl o.cells hc57 _ Try.underlying28 rfl (by kernel_rfl) ?_)
          obtain ⟨hL7, hcall⟩ := dir_atO w7 _ g gt most st ⟨some ⟨gB, 0, none⟩, xl, xc⟩ sf7 gm _ (nb + (k + 1)) Hc7.out Hat7.out
          have HL7 := hide hL7
          refine hcall.mono ?_
          rintro e w8 ⟨bx, off, hax, rfl, hf8⟩
          have Hax := hide hax; have Hc8 := hide (Hc7.out.frN hf8); have Hf8 := hide hf8
          obtain ⟨L, hL⟩ : ∃ L, locO Y.S.take.2 o = L := ⟨_, rfl⟩
          have HA8 := hide (show adr st ⟨some ⟨gB, 0, none⟩, xl, xc⟩ L = some ⟨bx, off, none⟩ from by rw [← hL]; exact hax)
          have HL8 := hide (show Y.S.take.2.has L from by rw [← hL]; exact HL7.out)
          rw [hL] at Hne HOwn
          obtain ⟨x, hx⟩ : ∃ x, Y.S.take.2.get L = x := ⟨_, rfl⟩
          rw [hx] at HOwn
          have Hx := hide hx
          clear hax hf8 hL7 hcall hc57 hL hx
          go_wp2_with fail
          go_loopw [76] (FillAt w8 (gr (gr C w2 wr) w5 w7) g gt most st ⟨some ⟨gB, 0, none⟩, xl, xc⟩ sf7 gm ⟨Y.S.take.2, upd Y.own o (c + 1), n'⟩ (nb + (k + 1)) n x) (fun i _ => 256 - (intOf i).toNat)
          case atStart => exact ⟨0, by omega, rfl, by simp only [fill_zero Hnlt.out]; exact Hc8.out.frN (by first | exact Fr.refl _ _ | exact (Fr.refl _ _).drew), by first | exact Fr.refl _ _ | exact (Fr.refl _ _).drew⟩
          case round =>
            obtain ⟨j, hj, rfl, hcj, hfj⟩ := hrel
            obtain ⟨b9, off9, ha9, hcl9, hC9, hbg9, hfz9⟩ := hcj.get (L := L) (fill_has.2 HL8.out)
            rw [HA8.out] at ha9
            simp only [Option.some.injEq, Addr.mk.injEq, and_true] at ha9
            obtain ⟨rfl, rfl⟩ := ha9
            simp only [fill_other Hne.out, Hx.out] at hcl9
            have Hcj := hide hcj; have Hfj := hide hfj
            by_cases hlt2 : j < 256
            · have d5 : ∀ z : Grow wr, z.v.cell? ⟨g, 5, none⟩ = some (.slice (some ⟨gB, 0, none⟩) xl xc) := fun z => (hcj.blk.fr z.fr (fun h => h)).cell 5
              have hmul2 : ((n : Int) * 768).toNat = n * 768 := by omega
              have hmul3 : ((j : Int) * 3).toNat = j * 3 := by omega
              have hjj : (j : Int) < 256 := by omega
              have hnx2 : (n : Int) < (xl : Int) := by omega
              have Hcl9 := hide hcl9
              clear hcj hfj hcl9 hfz9 hC9 hbg9
              go_upto_region 15 with (fail)
              refine wp_region_mixT 11 (fun W => ∃ z : Grow wr, W = z.v) (by kernel_rfl) (by kernel_rfl) (inGrow (Fr.refl _ _).drew) ?_
              simp only [List.take_succ_cons, List.take_zero, List.drop_succ_cons, List.drop_zero]
              iterate 8 (first | (refine wpMix_skip rfl ?_; simp only [Act.put, List.setIfInBounds_toArray, List.set_cons_succ, List.set_cons_zero]) | (refine wpMix_calm rfl rfl (fun K hK => ?_); go_big_quiet_op; refine hK _ ?_; clear hK K))
              refine wpMix_load_atw rfl 111 (.tmp 86) rfl bx off rfl x.cells (fun W hW => by obtain ⟨z, rfl⟩ := hW; exact Hcl9.out.fr z.fr (fun h => h)) _ Try.underlying111 rfl (by kernel_rfl) ?_
              simp only [Act.put, List.setIfInBounds_toArray, List.set_cons_succ, List.set_cons_zero]
              repeat (first | (refine wpMix_skip rfl ?_; simp only [Act.put, List.setIfInBounds_toArray, List.set_cons_succ, List.set_cons_zero]) | (refine wpMix_calm rfl rfl (fun K hK => ?_); go_big_quiet_op; refine hK _ ?_; clear hK K))
              refine wpMix_nil ?_
              refine wpList_store_core rfl (.tmp 89) (.tmp 87) rfl gB (n * 768 + j * 3) x rfl rfl (Hcj.out.frN (Fr.refl noB _).drew) (L := .b n j) (fill_has.2 ⟨Hnlt.out, hlt2⟩) rfl ?_
              intro w10 hc10 hf10 hs10
              have Hc10 := hide hc10
              have Hf10 := hide (Hfj.out.tr ((Fr.refl _ _).drew.tr hf10))
              clear hc10 hf10 hs10 d5
              simp only [Act.put, List.setIfInBounds_toArray, List.set_cons_succ, List.set_cons_zero]
              go_wp2_with fail
              go_roundw
              case rel =>
                refine ⟨j + 1, by omega, by go_num, ?_, Hf10.out⟩
                have := Hc10.out
                unfold TS.putS at this
                simp only [fill_step Hnlt.out] at this
                exact this
              case measure => simp [intOf]; omega
            · obtain rfl : j = 256 := by omega
              have y2 : wr.cell? ⟨bx, off + 2, none⟩ = some (.int .i32 (x.block : Nat)) := hcl9 2 _ rfl
              have z2 : wr.frozen? ⟨bx, off + 2, none⟩ = false := hfz9 _
              clear hcj hfj hcl9 hfz9 hC9
              go_upto_region 18 with (fail)
              refine wp_gen (fun W => CoreAt W (gr C w2 W) g gt most st ⟨some ⟨gB, 0, none⟩, xl, xc⟩ sf7 gm (upO X p (k + 1)) (nb + (k + 1)) ∧ Fr C w2 W) ?_ ?_
              · obtain ⟨k1, k2, k3⟩ := Hcj.out.putB (L := L) (fill_has.2 HL8.out) (n + 1) HA8.out
                have hX := (((Hf7.out.mono (fun _ _ h => .inl h)).tr (Hf8.out.mono (fun _ _ h => h.elim))).tr Hfj.out).tr (k3.mono (fun b _ e => by unfold oneB at e; rw [e]; exact k2))
                have hF := Fr.trans (U := C) HFr5.out hX (fun _ _ h => h) (fun b hb h => by
                  have := HFr5.out.size
                  rcases h with (h | h) | h
                  · exact h
                  · omega
                  · omega)
                refine ⟨?_, hF⟩
                rw [HE.out]
                unfold TS.putS at k1
                simp only [HOwn.out] at k1
                exact k1.since (fun b hb => by
                  have := HFr5.out.size
                  rcases hb with (h | h) | h
                  · exact .inl h
                  · exact .inr h.1
                  · exact .inr (by omega)) HCl2.out hF.size
              · rintro w11 ⟨hc11, hf11⟩
                have Hc11 := hide hc11; have Hf11 := hide hf11
                clear hc11 hf11 y2 z2
                go_wp2_with fail
                go_roundw
                case rel => exact ⟨k + 1, ⟨some ⟨gB, 0, none⟩, xl, xc⟩, sf7, Hk1.out, by go_num, Hc11.out, Hf11.out⟩
                case measure => simp [intOf]; omega
    · obtain rfl : k = s4l := by have := Hl2.out; omega
      go_wp2_with fail
      first | go_end0 | (refine bodyPost_ret (results_none rfl _ _ _) rfl ?_) | (simp only [Exit.inBlock, Exit.then]; refine bodyPost_ret (results_none rfl _ _ _) rfl ?_)
      have hs := Hfr.out.size
      have hs2 := Hf2.out.size
      refine ⟨rfl, ⟨sb1, sf1, ?_⟩, Fr.trans Hf2.out Hfr.out (fun _ _ h => h.elim) (fun _ _ h => h)⟩
      rw [← upO_all, ← Hl2.out]
      exact (Hcore.out.up (by omega) Hnb.out).since (fun b hb => hb.elim .inl (fun h => .inr (by omega))) HCl.out (by omega)
end Go.Proofs.Ytgjabgneapdbiaa
