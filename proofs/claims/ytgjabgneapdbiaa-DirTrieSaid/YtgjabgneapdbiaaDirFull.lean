/- The law DirFull, walked: it returns true. -/
import Derived.Test.YtgjabgneapdbiaaDirOwned
namespace Go.Proofs.Ytgjabgneapdbiaa
open Go.RowKit Go.BigFrame
set_option linter.unusedSimpArgs false
set_option linter.unusedVariables false
attribute [local irreducible] wpMix wpAnyG

theorem dirX_e (most : Int) (l : List EntM) (p : PrefixM) (v : Int) : (dirX most l p v).e = 0 ∨ (((dirX most l p v).e = 6 ∨ (dirX most l p v).e = 1) ∧ (dirX most l p v).l = l) := by
  unfold dirX
  split
  · split
    · exact .inl rfl
    · exact .inr ⟨.inl rfl, rfl⟩
  · exact .inr ⟨.inr rfl, rfl⟩
def FromE (xs : List DActM) (i j : Nat) (l : List EntM) : Prop := ∀ x ∈ l, ∃ (h : Nat) (y : DActM), i ≤ h ∧ h < j ∧ xs[h]? = some y ∧ x.p = y.p
theorem FromE.set {xs : List DActM} {k : Nat} {l : List EntM} (h : FromE xs 0 k l) (hs : SortedE l) {x : DActM} (hx : xs[k]? = some x) (most : Int) : FromE xs 0 (k + 1) (dirX most l x.p x.v).l := by
  intro y hy
  rcases dirX_mem hs hy with rfl | hy
  · exact ⟨k, x, Nat.zero_le _, Nat.lt_succ_self _, hx, rfl⟩
  · obtain ⟨j, z, h1, h2, h3, h4⟩ := h y hy
    exact ⟨j, z, h1, by omega, h3, h4⟩
theorem FromE.del {xs : List DActM} {k j : Nat} {l : List EntM} (h : FromE xs k j l) (hs : SortedE l) {x : DActM} (hx : xs[k]? = some x) : FromE xs (k + 1) j (delE l x.p) := by
  intro y hy
  rw [del_E_mem hs] at hy
  obtain ⟨i, z, h1, h2, h3, h4⟩ := h y hy.1
  refine ⟨i, z, ?_, h2, h3, h4⟩
  by_cases e : i = k
  · subst e
    rw [hx] at h3
    obtain rfl := Option.some.inj h3
    exact absurd h4 hy.2
  · omega
def FullAt (w0 : World) (n : Int) (xs : List DActM) (g : Nat) (iv : Value) (wr : World) : Prop := ∃ (k : Nat) (l : List EntM), k ≤ xs.length ∧ k ≤ 60 ∧ iv = .int .i64 k ∧ l.length ≤ k ∧ (ownN l : Int) ≤ n ∧ FromE xs 0 k l ∧ MyDir w0 wr g n l (1 + 2 * k) (2 * k)
def GoneAt (w0 : World) (n : Int) (xs : List DActM) (e g : Nat) (iv : Value) (wr : World) : Prop := ∃ (k : Nat) (l : List EntM), k ≤ e ∧ iv = .int .i64 k ∧ l.length ≤ 60 ∧ FromE xs k e l ∧ MyDir w0 wr g n l 121 (120 + 2 * k)

set_option maxRecDepth 100000 in
set_option maxHeartbeats 8000000 in
theorem law_dfull (n : Int) (hn : i64b n) (s : SlV) (xs : List DActM) (w : World) (hs : DActs w s xs) :
    Calls Try.prog 17 #[.int .i64 n, .slice s.a s.len s.cap] w fun e w' => e = .returned (.bool true) ∧ Fr noB w w' := by
  obtain ⟨sa, len, cap⟩ := s
  have hl : len = xs.length := hs.1
  have hm : len ≤ maxLen := hs.2.1
  unfold maxLen at hm
  have Hs := hide hs; have Hl := hide hl
  clear hs hl
  simp only
  have h3 : n < 0 ∨ (¬ n < 0 ∧ 40 < n) ∨ (0 ≤ n ∧ n ≤ 40) := by omega
  rcases h3 with h | ⟨h, h2⟩ | ⟨h, h2⟩
  · go_enter Try.func17, Try.ntmps17
    go_wp2_with fail
    go_ret
    exact ⟨rfl, Fr.refl _ _⟩
  · go_enter Try.func17, Try.ntmps17
    go_wp2_with fail
    go_ret
    exact ⟨rfl, Fr.refl _ _⟩
  go_enter Try.func17, Try.ntmps17
  go_wp2_with fail
  refine (dir_new w n hn).mono ?_
  rintro e w1 ⟨g, rfl, hr, hf1⟩
  rw [show max n 0 = n by omega] at hr
  have HD := hide (MyDir.new (Fr.refl noB w) hr hf1)
  have Hmost := hide (show 0 ≤ n ∧ i64b n from ⟨h, hn⟩)
  have Hn := hide hn
  clear hr hf1 hn
  go_wp2_with fail
  go_loopw [6] (FullAt w n xs g) (fun i _ => len - (intOf i).toNat)
  case atStart => exact ⟨0, [], Nat.zero_le _, by omega, rfl, Nat.le_refl _, (show ((0 : Nat) : Int) ≤ n by omega), (fun x hx => by simp at hx), HD.out⟩
  case round =>
    obtain ⟨k, l, hk, hk60, rfl, hlen, hown, hfrom, hd⟩ := hrel
    have Hd := hide hd; have Hown := hide hown; have Hfrom := hide hfrom
    clear hd HD hown hfrom
    by_cases hgo : k < len ∧ k < 60
    · obtain ⟨hlt, h60⟩ := hgo
      have hk2 : k < xs.length := by have := Hl.out; omega
      have hx : xs[k]? = some xs[k] := List.getElem?_eq_getElem hk2
      obtain ⟨b, o, rfl, hbw, hc, hwf⟩ := SlOf.at Hs.out hx
      generalize xs[k] = x at *
      have hmul : ((k : Int) * 4).toNat = k * 4 := by omega
      have Hc := hide (show CellsAt w b (o + k * 4) x.cells from hc); have Hwf := hide hwf; have Hx := hide hx
      have hca : ∀ z : Grow w, z.v.cell? ⟨b, o + k * 4 + 1, none⟩ = some (.int .u32 (x.p.addr : Nat)) := fun z => by have := (Hc.out.fr z.fr (fun h => h)) 1 _ rfl; exact this
      have hcv : ∀ z : Grow w, z.v.cell? ⟨b, o + k * 4 + 3, none⟩ = some (.int .i64 x.v) := fun z => by have := (Hc.out.fr z.fr (fun h => h)) 3 _ rfl; exact this
      have Hcp := hide (show CellsAt w b (o + k * 4 + 1) x.p.cells from cells_pre (ds := [.int .i64 x.v]) (by have h := cells_part Hc.out 1; exact h))
      obtain ⟨nn, hnn⟩ : ∃ nn, ownN l = nn := ⟨_, rfl⟩
      have hnn1 : (nn : Int) ≤ n := by have := Hown.out; rw [hnn] at this; exact this
      have Hnn := hide hnn
      obtain ⟨ln, hln⟩ : ∃ ln, l.length = ln := ⟨_, rfl⟩
      have Hln := hide hln
      have hln1 : ln ≤ 60 := by omega
      obtain ⟨vv, bb, hvb⟩ := getV_pair (longE l x.p.addr)
      have Hvb := hide hvb
      have Hlen0 := hide hlen
      clear hx hc hwf hnn hln hvb hlen
      go_wp2_with fail
      refine (my_blocks Hd.out).mono ?_
      rintro e w2 ⟨rfl, rfl⟩
      rw [Hnn.out]
      go_wp2_with fail
      refine (my_len Hd.out).mono ?_
      rintro e w3 ⟨rfl, rfl⟩
      rw [Hln.out]
      have ca := hca ⟨w3, Hd.out.1⟩
      have hxa : x.p.addr < 4294967296 := Hwf.out.1.1
      have Hxa := hide hxa
      go_wp2_with fail
      refine (my_look Hd.out x.p.addr Hxa.out).mono ?_
      rintro e w4 ⟨rfl, hf4⟩
      rw [Hvb.out]
      have Hd4 := hide (Hd.out.fr hf4)
      clear hf4 ca
      go_upto_region 11 with (fail)
      refine wp_region_mix (fun W => ∃ z : Grow w, W = z.v) (by kernel_rfl) (by kernel_rfl) (inGrow Hd4.out.1.drew) ?_
      iterate 5 (first | (refine wpMix_skip rfl ?_; simp only [Act.put, List.setIfInBounds_toArray, List.set_cons_succ, List.set_cons_zero]) | (refine wpMix_calm rfl rfl (fun K hK => ?_); go_big_quiet_op; refine hK _ ?_; clear hK K))
      refine wpMix_load_atw rfl 28 (.tmp 54) rfl b (o + k * 4 + 1) (by go_simp) x.p.cells (fun W hW => by obtain ⟨z, rfl⟩ := hW; exact Hcp.out.fr z.fr (fun h => h)) _ Try.underlying28 rfl (by kernel_rfl) ?_
      simp only [Act.put, List.setIfInBounds_toArray, List.set_cons_succ, List.set_cons_zero]
      iterate 5 (first | (refine wpMix_skip rfl ?_; simp only [Act.put, List.setIfInBounds_toArray, List.set_cons_succ, List.set_cons_zero]) | (refine wpMix_calm rfl rfl (fun K hK => ?_); go_big_quiet_op; refine hK _ ?_; clear hK K))
      refine wpMix_spine rfl rfl (fun K hK => ?_); go_wp2_with fail
      refine (my_set (Hd4.out.fr (Fr.refl noB w4).drew) (by omega) (by omega) Hmost.out x.p Hwf.out.1 x.v Hwf.out.2).mono ?_
      rintro e w5 ⟨rfl, hd5⟩
      refine hK _ _ rfl (inGrow hd5.1) ?_
      clear hK K
      have Hown5 := hide (dirX_own (show (ownN l : Int) ≤ n by rw [Hnn.out]; exact hnn1) x.p x.v)
      have Hfrom5 := hide (Hfrom.out.set Hd4.out.trie.1 Hx.out n)
      have hlen5 := dirX_len n l x.p x.v
      rcases dirX_e n l x.p x.v with he | ⟨he, he2⟩
      · rw [he]
        generalize (dirX n l x.p x.v).l = l' at *
        have Hd5 := hide hd5
        have hlen6 : l'.length ≤ k + 1 := by have := Hlen0.out; omega
        have Hlen6 := hide hlen6
        obtain ⟨mm, hmm⟩ : ∃ mm, ownN l' = mm := ⟨_, rfl⟩
        have hmm1 : (mm : Int) ≤ n := by have := Hown5.out; rw [hmm] at this; exact this
        have Hmm := hide hmm
        clear hd5 hlen5 he hlen6 hmm
        repeat (first | (refine wpMix_skip rfl ?_; simp only [Act.put, List.setIfInBounds_toArray, List.set_cons_succ, List.set_cons_zero]) | (refine wpMix_calm rfl rfl (fun K hK => ?_); go_big_quiet_op; refine hK _ ?_; clear hK K))
        refine wpMix_nil ?_
        clear hca hcv
        go_wp2_with fail
        refine (my_blocks Hd5.out).mono ?_
        rintro e w6 ⟨rfl, rfl⟩
        rw [Hmm.out]
        go_wp2_with fail
        go_roundw
        case rel => exact ⟨k + 1, l', by omega, by omega, by go_num, Hlen6.out, Hown5.out, Hfrom5.out, Hd5.out.up (by omega) (by omega) (by omega)⟩
        case measure => simp [intOf]; omega
      · have hne : (((dirX n l x.p x.v).e : Int) == 0) = false := by rcases he with h | h <;> rw [h] <;> rfl
        rw [he2] at hd5 Hown5 Hfrom5
        generalize (dirX n l x.p x.v).e = ee at *
        have Hd5 := hide hd5
        clear hd5 hlen5 he he2
        repeat (first | (refine wpMix_skip rfl ?_; simp only [Act.put, List.setIfInBounds_toArray, List.set_cons_succ, List.set_cons_zero]) | (refine wpMix_calm rfl rfl (fun K hK => ?_); go_big_quiet_op; refine hK _ ?_; clear hK K))
        refine wpMix_nil ?_
        clear hcv
        go_wp2_with fail
        refine (my_blocks Hd5.out).mono ?_
        rintro e w6 ⟨rfl, rfl⟩
        rw [Hnn.out]
        have ca := hca ⟨w6, Hd5.out.1⟩
        clear hca
        go_wp2_with fail
        refine (my_look Hd5.out x.p.addr Hxa.out).mono ?_
        rintro e w7 ⟨rfl, hf7⟩
        rw [Hvb.out]
        have Hd7 := hide (Hd5.out.fr hf7)
        clear hf7 ca hne
        go_wp2_with fail
        refine (my_blocks Hd7.out).mono ?_
        rintro e w8 ⟨rfl, rfl⟩
        rw [Hnn.out]
        go_wp2_with fail
        refine (my_len Hd7.out).mono ?_
        rintro e w9 ⟨rfl, rfl⟩
        rw [Hln.out]
        have hbb : (bb != bb) = false := by cases bb <;> rfl
        go_wp2_with fail
        go_roundw
        case rel => exact ⟨k + 1, l, by omega, by omega, by go_num, by have := Hlen0.out; omega, Hown5.out, Hfrom5.out, Hd7.out.up (by omega) (by omega) (by omega)⟩
        case measure => simp [intOf]; omega
    · have hstop : (k < len ∧ ¬ k < 60 ∧ k = 60) ∨ (¬ k < len ∧ ¬ k < len ∧ k = len) := by have := Hl.out; omega
      clear hgo
      have HS : Hid (GoneAt w n xs k g (.int .i64 (0 : Nat)) wr) := hide ⟨0, l, Nat.zero_le _, rfl, by omega, Hfrom.out, Hd.out.up (by omega) (by omega) (by omega)⟩
      rcases hstop with ⟨h1, h1b, h2⟩ | ⟨h1, h1b, h2⟩
      all_goals
        have H2 := hide h2
        clear h2
        go_wp2_with fail
        go_loopw [14] (GoneAt w n xs k g) (fun i _ => len - (intOf i).toNat)
        case atStart => exact HS.out
        case round =>
          obtain ⟨j, l2, hj, rfl, hlen2, hfrom2, hd2⟩ := hrel
          have Hd2 := hide hd2; have Hfrom2 := hide hfrom2; have Hlen2 := hide hlen2
          clear hd2 hfrom2 HS hlen2
          by_cases hgo : j < k
          · have hk2 : j < xs.length := by have := Hl.out; omega
            have hjl : j < len := by have := Hl.out; omega
            have hj60 : j < 60 := by omega
            have hx : xs[j]? = some xs[j] := List.getElem?_eq_getElem hk2
            obtain ⟨b, o, rfl, hbw, hc, hwf⟩ := SlOf.at Hs.out hx
            generalize xs[j] = x at *
            have hmul : ((j : Int) * 4).toNat = j * 4 := by omega
            have Hwf := hide hwf; have Hx := hide hx
            have hcp : CellsAt wr b (o + j * 4 + 1) x.p.cells := cells_pre (ds := [.int .i64 x.v]) (by have h := cells_part (show CellsAt wr b (o + j * 4) x.cells from hc.fr Hd2.out.1 (fun h => h)) 1; exact h)
            clear hx hc hwf
            go_wp2_with (refine wpList_load_atw rfl 28 (.tmp 113) rfl b (o + j * 4 + 1) rfl x.p.cells hcp _ Try.underlying28 rfl (by kernel_rfl) ?_)
            refine (my_del Hd2.out (by omega) x.p Hwf.out.1).mono ?_
            rintro e w6 ⟨rfl, hd6⟩
            have Hd6 := hide hd6
            have Hfrom6 := hide (Hfrom2.out.del Hd2.out.trie.1 Hx.out)
            have Hlen6 := hide (Nat.le_trans (delE_len l2 x.p) Hlen2.out)
            clear hd6 hcp
            go_wp2_with fail
            go_roundw
            case rel => exact ⟨j + 1, delE l2 x.p, by omega, by go_num, Hlen6.out, Hfrom6.out, Hd6.out.up (Nat.le_refl _) (by omega) (by omega)⟩
            case measure => simp [intOf]; omega
          · have hl0 : l2 = [] := by
              cases l2 with
              | nil => rfl
              | cons x t =>
                obtain ⟨i, y, h1, h2, _⟩ := Hfrom2.out x (List.mem_cons_self ..)
                omega
            subst hl0
            have hjk : j = k := by omega
            subst hjk
            clear hgo
            go_wp2_with fail
            refine (my_blocks Hd2.out).mono ?_
            rintro e w6 ⟨rfl, rfl⟩
            rw [own_nil]
            go_wp2_with fail
            refine (my_len Hd2.out).mono ?_
            rintro e w7 ⟨rfl, rfl⟩
            rw [List.length_nil]
            go_wp2_with fail
            refine (dir_known w7).mono ?_
            rintro e w8 ⟨rfl, hf8⟩
            have Hf8 := hide (Hd2.out.1.tr hf8)
            clear hf8
            go_wp2_with fail
            go_ret
            exact ⟨rfl, Hf8.out⟩
end Go.Proofs.Ytgjabgneapdbiaa
