/- The law DirTrie, walked: it returns true. -/
import Derived.Test.YtgjabgneapdbiaaDirFull
namespace Go.Proofs.Ytgjabgneapdbiaa
open Go.RowKit Go.BigFrame
set_option linter.unusedSimpArgs false
set_option linter.unusedVariables false
attribute [local irreducible] wpMix wpAnyG

theorem dirX_setX {l : List EntM} (hl : l.length ≤ 60) (p : PrefixM) {v : Int} (hv : 0 ≤ v) : dirX 200 l p v = setX l p v := by
  have h1 := ownN_le l
  have h2 : needN l p ≤ 2 := by
    unfold needN
    refine Nat.le_trans List.countP_le_length ?_
    unfold ownedL
    split <;> split <;> simp
  unfold dirX setX
  by_cases h : p = normP p
  · rw [if_pos (show p = normP p ∧ 0 ≤ v from ⟨h, hv⟩), if_pos (.inr (by omega)), if_pos h]
  · rw [if_neg (fun k => h k.1), if_neg h]
/-- Two Dirs and the document's rows, each in blocks of its own. -/
def TriD (w0 w : World) (gd ge gx : Nat) (ld le lx : List EntM) (m nb : Nat) : Prop := Fr noB w0 w ∧ ∃ D E X : Nat → Prop, DirRep w D gd 200 ld m nb ∧ DirRep w E ge 200 le m nb ∧ DocT w X gx 50 [] lx ∧ (∀ b, D b → ¬ E b) ∧ (∀ b, D b → ¬ X b) ∧ (∀ b, E b → ¬ X b) ∧ ∀ b, D b ∨ E b ∨ X b → w0.heap.size ≤ b
theorem TriD.fr {w0 w w' : World} {gd ge gx m nb : Nat} {ld le lx : List EntM} (h : TriD w0 w gd ge gx ld le lx m nb) (f : Fr noB w w') : TriD w0 w' gd ge gx ld le lx m nb := by
  obtain ⟨h0, D, E, X, h1, h2, h3, h4⟩ := h
  exact ⟨h0.tr f, D, E, X, h1.fr f (fun _ _ h => h), h2.fr f (fun _ _ h => h), h3.frN f, h4⟩
theorem TriD.up {w0 w : World} {gd ge gx m nb m' nb' : Nat} {ld le lx : List EntM} (h : TriD w0 w gd ge gx ld le lx m nb) (hm : m ≤ m') (hn : nb ≤ nb') (hn' : nb' ≤ 1000000) : TriD w0 w gd ge gx ld le lx m' nb' := by
  obtain ⟨h0, D, E, X, h1, h2, h3, h4⟩ := h
  exact ⟨h0, D, E, X, h1.up hm hn hn', h2.up hm hn hn', h3, h4⟩
theorem gr_not {w w' : World} {A B : Nat → Prop} (h : ∀ b, A b → ¬ B b) (hB : ∀ b, B b → b < w.heap.size) : ∀ b, gr A w w' b → ¬ B b := fun b hb k => by
  rcases hb with hb | hb
  · exact h b hb k
  · have := hB b k; omega
theorem gr_ge {w0 w w' : World} {A : Nat → Prop} (f : Fr noB w0 w) (h : ∀ b, A b → w0.heap.size ≤ b) : ∀ b, gr A w w' b → w0.heap.size ≤ b := fun b hb => by
  rcases hb with hb | hb
  · exact h b hb
  · have := f.size; omega
theorem tri_setD {w0 w : World} {gd ge gx : Nat} {ld le lx : List EntM} {m nb : Nat} (h : TriD w0 w gd ge gx ld le lx m nb) (hm : m + 2 ≤ 1000000) (hnb : nb + 2 ≤ 1000000) (p : PrefixM) (hp : p.wf) (v : Int) (hv : i64b v) :
    Calls Try.prog 41 #[.pointer (some ⟨gd, 0, none⟩), .agg p.cells.toArray, .int .i64 v] w fun e w' => e = .returned (.int .i64 (dirX 200 ld p v).e) ∧ TriD w0 w' gd ge gx (dirX 200 ld p v).l le lx (m + 2) (nb + 2) := by
  obtain ⟨h0, D, E, X, h1, h2, h3, h4, h5, h6, h7⟩ := h
  refine (dir_setX w D gd 200 ld m nb h1 hm hnb ⟨by decide, by unfold i64b; decide⟩ p hp v hv).mono ?_
  rintro e w' ⟨he, hr, hf⟩
  refine ⟨he, h0.trans hf (fun _ _ h => h) (fun b hb h => by have := h7 b (.inl h); omega), gr D w w', E, X, hr, (h2.fr hf (fun b hb k => h4 b k hb)).up (by omega) (by omega) hnb, h3.fr hf (fun b hb k => h5 b k hb), gr_not h4 h2.lt, gr_not h5 h3.lt, h6, fun b hb => ?_⟩
  rcases hb with hb | hb
  · exact gr_ge h0 (fun b k => h7 b (.inl k)) b hb
  · exact h7 b (.inr hb)
theorem tri_setE {w0 w : World} {gd ge gx : Nat} {ld le lx : List EntM} {m nb : Nat} {D E X : Nat → Prop} (h0 : Fr noB w0 w) (h1 : DirRep w D gd 200 ld m nb) (h2 : DirRep w E ge 200 le m nb) (h3 : DocT w X gx 50 [] lx) (h4 : ∀ b, D b → ¬ E b) (h5 : ∀ b, D b → ¬ X b) (h6 : ∀ b, E b → ¬ X b) (h7 : ∀ b, D b ∨ E b ∨ X b → w0.heap.size ≤ b)
    (hm : m + 2 ≤ 1000000) (hnb : nb + 2 ≤ 1000000) (p : PrefixM) (hp : p.wf) (v : Int) (hv : i64b v) :
    Calls Try.prog 41 #[.pointer (some ⟨ge, 0, none⟩), .agg p.cells.toArray, .int .i64 v] w fun e w' => e = .returned (.int .i64 (dirX 200 le p v).e) ∧ Fr E w w' ∧ TriD w0 w' gd ge gx ld (dirX 200 le p v).l lx (m + 2) (nb + 2) := by
  refine (dir_setX w E ge 200 le m nb h2 hm hnb ⟨by decide, by unfold i64b; decide⟩ p hp v hv).mono ?_
  rintro e w' ⟨he, hr, hf⟩
  refine ⟨he, hf, h0.trans hf (fun _ _ h => h) (fun b hb h => by have := h7 b (.inr (.inl h)); omega), D, gr E w w', X, (h1.fr hf (fun b hb k => h4 b hb k)).up (by omega) (by omega) hnb, hr, h3.fr hf (fun b hb k => h6 b k hb), fun b hb k => gr_not (fun b h k => h4 b k h) h1.lt b k hb, h5, gr_not h6 h3.lt, fun b hb => ?_⟩
  rcases hb with hb | hb | hb
  · exact h7 b (.inl hb)
  · exact gr_ge h0 (fun b k => h7 b (.inr (.inl k))) b hb
  · exact h7 b (.inr (.inr hb))
theorem tri_setX {w0 w : World} {gd ge gx : Nat} {ld le lx : List EntM} {m nb : Nat} (h : TriD w0 w gd ge gx ld le lx m nb) (hl : lx.length < 1000) (p : PrefixM) (hp : p.wf) (v : Int) :
    Calls Try.prog 36 #[.pointer (some ⟨gx, 0, none⟩), .agg p.cells.toArray, .int .i64 v] w fun e w' => e = .returned (.int .i64 (setX lx p v).e) ∧ TriD w0 w' gd ge gx ld le (setX lx p v).l m nb := by
  obtain ⟨h0, D, E, X, h1, h2, h3, h4, h5, h6, h7⟩ := h
  refine (doc_set w X gx _ [] lx h3 hl p hp v).mono ?_
  rintro e w' ⟨he, hr, hf⟩
  refine ⟨he, h0.trans hf (fun _ _ h => h) (fun b hb h => by have := h7 b (.inr (.inr h)); omega), D, E, gr X w w', h1.fr hf (fun b hb k => h5 b hb k), h2.fr hf (fun b hb k => h6 b hb k), hr, h4, fun b hb k => gr_not (fun b h k => h5 b k h) h1.lt b k hb, fun b hb k => gr_not (fun b h k => h6 b k h) h2.lt b k hb, fun b hb => ?_⟩
  rcases hb with hb | hb | hb
  · exact h7 b (.inl hb)
  · exact h7 b (.inr (.inl hb))
  · exact gr_ge h0 (fun b k => h7 b (.inr (.inr k))) b hb
def Tri1At (w0 : World) (n gd ge gx : Nat) (iv : Value) (wr : World) : Prop := ∃ (k : Nat) (l : List EntM), k ≤ n ∧ k ≤ 60 ∧ iv = .int .i64 k ∧ l.length ≤ k ∧ (∀ y ∈ l, 0 ≤ y.v ∧ i64b y.v) ∧ TriD w0 wr gd ge gx l [] l (1 + 2 * k) (2 * k)
def Tri2At (w0 : World) (l : List EntM) (gd ge gx : Nat) (iv : Value) (wr : World) : Prop := ∃ k : Nat, k ≤ l.length ∧ iv = .int .i64 ((k : Int) - 1) ∧ TriD w0 wr gd ge gx l (l.drop k) l (121 + 2 * (l.length - k)) (120 + 2 * (l.length - k))
theorem setX_v {l : List EntM} (hs : SortedE l) (h : ∀ y ∈ l, 0 ≤ y.v ∧ i64b y.v) (p : PrefixM) {v : Int} (hv : 0 ≤ v ∧ i64b v) : ∀ y ∈ (setX l p v).l, 0 ≤ y.v ∧ i64b y.v := by
  intro y hy
  unfold setX at hy
  split at hy
  · rcases (put_E_mem hs p v y).1 hy with rfl | h2
    · exact hv
    · exact h y h2.1
  · exact h y hy
theorem TriD.trie {w0 w : World} {gd ge gx m nb : Nat} {ld le lx : List EntM} (h : TriD w0 w gd ge gx ld le lx m nb) : SortedE ld ∧ ∀ x ∈ ld, okP x.p := by
  obtain ⟨h0, D, E, X, h1, _⟩ := h
  exact h1.trie

set_option maxRecDepth 100000 in
set_option maxHeartbeats 16000000 in
theorem law_dtrie (s : SlV) (xs : List DActM) (a : Nat) (ha : a < 4294967296) (w : World) (hs : DActs w s xs) :
    Calls Try.prog 12 #[.slice s.a s.len s.cap, .int .u32 (a : Nat)] w fun e w' => e = .returned (.bool true) ∧ Fr noB w w' := by
  obtain ⟨sa, len, cap⟩ := s
  have hl : len = xs.length := hs.1
  have hm : len ≤ maxLen := hs.2.1
  unfold maxLen at hm
  have Hs := hide hs; have Hl := hide hl
  clear hs hl
  simp only
  go_enter Try.func12, Try.ntmps12
  go_wp2_with fail
  refine (dir_new w 200 (by unfold i64b; decide)).mono ?_
  rintro e w1 ⟨gd, rfl, hr1, hf1⟩
  rw [show max (200 : Int) 0 = 200 from rfl] at hr1
  have Hr1 := hide hr1; have Hf1 := hide hf1
  clear hr1 hf1
  go_wp2_with fail
  refine (dir_new w1 200 (by unfold i64b; decide)).mono ?_
  rintro e w2 ⟨ge, rfl, hr2, hf2⟩
  rw [show max (200 : Int) 0 = 200 from rfl] at hr2
  have Hr2 := hide hr2; have Hf2 := hide hf2
  clear hr2 hf2
  go_upto_region 5 with (fail)
  refine wp_gen (fun W => TriD w W gd ge w2.heap.size [] [] [] 1 0) ?_ ?_
  · have s1 := Hf1.out.size; have s2 := Hf2.out.size
    refine ⟨(Hf1.out.tr Hf2.out).alloc _, newF w w1, newF w1 w2, fun b => w2.heap.size ≤ b ∧ b < w2.heap.size + 1, (Hr1.out.fr Hf2.out (fun _ _ h => h)).fr ((Fr.refl noB _).alloc _) (fun _ _ h => h), Hr2.out.fr ((Fr.refl noB _).alloc _) (fun _ _ h => h), ⟨⟨⟨none, 0, 0⟩, ⟨none, 0, 0⟩, Blk.alloc_new w2 #[.slice none 0 0, .slice none 0 0] 50, OwnL.nil _ _ _ _, OwnL.nil _ _ _ _, ?_, ?_⟩, by decide, ⟨Nat.le_refl _, by omega⟩, fun b hb => by simp; omega, by simp⟩, fun b hb k => ?_, fun b hb k => ?_, fun b hb k => ?_, fun b hb => ?_⟩
    · rintro b ⟨a, ha, _⟩; simp at ha
    · rintro b ⟨a, ha, _⟩; simp at ha
    · have := hb.2; have := k.1; omega
    · have := hb.2; have := k.1; omega
    · have := hb.2; have := k.1; omega
    · rcases hb with h | h | h
      · exact h.1
      · have := h.1; omega
      · omega
  rintro w3 ht3
  have HT := hide ht3
  obtain ⟨gx, hgx⟩ : ∃ gx, w2.heap.size = gx := ⟨_, rfl⟩
  rw [hgx] at HT ⊢
  clear ht3 hgx Hr1 Hf1 Hr2 Hf2
  go_wp2_with fail
  go_loopw [8] (Tri1At w xs.length gd ge gx) (fun i _ => len - (intOf i).toNat)
  case atStart => exact ⟨0, [], Nat.zero_le _, by omega, rfl, Nat.le_refl _, (fun y hy => by simp at hy), HT.out⟩
  case round =>
    obtain ⟨k, l, hk, hk60, rfl, hlen, hv, ht⟩ := hrel
    have Ht := hide ht; have Hv := hide hv; have Hlen := hide hlen
    clear ht hv HT hlen
    by_cases hgo : k < len ∧ k < 60
    · obtain ⟨hlt, h60⟩ := hgo
      have hk2 : k < xs.length := by have := Hl.out; omega
      have hx : xs[k]? = some xs[k] := List.getElem?_eq_getElem hk2
      obtain ⟨b, o, rfl, hbw, hc, hwf⟩ := SlOf.at Hs.out hx
      generalize xs[k] = x at *
      have hmul : ((k : Int) * 4).toNat = k * 4 := by omega
      have Hc := hide (show CellsAt w b (o + k * 4) x.cells from hc); have Hwf := hide hwf
      have hcv : ∀ z : Grow w, z.v.cell? ⟨b, o + k * 4 + 3, none⟩ = some (.int .i64 x.v) := fun z => by have := (Hc.out.fr z.fr (fun h => h)) 3 _ rfl; exact this
      have Hcp := hide (show CellsAt w b (o + k * 4 + 1) x.p.cells from cells_pre (ds := [.int .i64 x.v]) (by have h := cells_part Hc.out 1; exact h))
      have cv : wr.cell? ⟨b, o + k * 4 + 3, none⟩ = some (.int .i64 x.v) := hcv ⟨wr, Ht.out.1⟩
      have cd : wr.cell? ⟨b, o + k * 4, none⟩ = some (.bool x.del) := by have := (Hc.out.fr Ht.out.1 (fun h => h)) 0 _ rfl; simpa using this
      clear hx hc hwf
      by_cases hpos : 0 ≤ x.v
      · cases hdel : x.del with
        | true =>
          rw [hdel] at cd
          clear hcv
          go_wp2_with fail
          go_roundw
          case rel => exact ⟨k + 1, l, by omega, by omega, by go_num, by have := Hlen.out; omega, Hv.out, Ht.out.up (by omega) (by omega) (by omega)⟩
          case measure => simp [intOf]; omega
        | false =>
          rw [hdel] at cd
          have Hpos := hide hpos
          go_upto_region 9 with (fail)
          clear cd cv hpos
          refine wp_region_mix (fun W => ∃ z : Grow w, W = z.v) (by kernel_rfl) (by kernel_rfl) (inGrow Ht.out.1.drew) ?_
          iterate 5 (first | (refine wpMix_skip rfl ?_; simp only [Act.put, List.setIfInBounds_toArray, List.set_cons_succ, List.set_cons_zero]) | (refine wpMix_calm rfl rfl (fun K hK => ?_); go_big_quiet_op; refine hK _ ?_; clear hK K))
          refine wpMix_load_atw rfl 28 (.tmp 54) rfl b (o + k * 4 + 1) (by go_simp) x.p.cells (fun W hW => by obtain ⟨z, rfl⟩ := hW; exact Hcp.out.fr z.fr (fun h => h)) _ Try.underlying28 rfl (by kernel_rfl) ?_
          simp only [Act.put, List.setIfInBounds_toArray, List.set_cons_succ, List.set_cons_zero]
          iterate 5 (first | (refine wpMix_skip rfl ?_; simp only [Act.put, List.setIfInBounds_toArray, List.set_cons_succ, List.set_cons_zero]) | (refine wpMix_calm rfl rfl (fun K hK => ?_); go_big_quiet_op; refine hK _ ?_; clear hK K))
          refine wpMix_spine rfl rfl (fun K hK => ?_); go_wp2_with fail
          refine (tri_setD (Ht.out.fr (Fr.refl noB wr).drew) (by omega) (by omega) x.p Hwf.out.1 x.v Hwf.out.2).mono ?_
          rw [dirX_setX (show l.length ≤ 60 by have := Hlen.out; omega) x.p Hpos.out]
          rintro e w4 ⟨rfl, ht4⟩
          refine hK _ _ rfl (inGrow ht4.1) ?_
          clear hK K
          have Ht4 := hide ht4
          clear ht4
          refine wpMix_nil ?_
          go_upto_region 10 with (fail)
          refine wp_region_mix (fun W => ∃ z : Grow w, W = z.v) (by kernel_rfl) (by kernel_rfl) (inGrow Ht4.out.1.drew) ?_
          iterate 4 (first | (refine wpMix_skip rfl ?_; simp only [Act.put, List.setIfInBounds_toArray, List.set_cons_succ, List.set_cons_zero]) | (refine wpMix_calm rfl rfl (fun K hK => ?_); go_big_quiet_op; refine hK _ ?_; clear hK K))
          refine wpMix_load_atw rfl 28 (.tmp 65) rfl b (o + k * 4 + 1) (by go_simp) x.p.cells (fun W hW => by obtain ⟨z, rfl⟩ := hW; exact Hcp.out.fr z.fr (fun h => h)) _ Try.underlying28 rfl (by kernel_rfl) ?_
          simp only [Act.put, List.setIfInBounds_toArray, List.set_cons_succ, List.set_cons_zero]
          iterate 5 (first | (refine wpMix_skip rfl ?_; simp only [Act.put, List.setIfInBounds_toArray, List.set_cons_succ, List.set_cons_zero]) | (refine wpMix_calm rfl rfl (fun K hK => ?_); go_big_quiet_op; refine hK _ ?_; clear hK K))
          refine wpMix_spine rfl rfl (fun K hK => ?_); go_wp2_with fail
          refine (tri_setX (Ht4.out.fr (Fr.refl noB w4).drew) (by have := Hlen.out; omega) x.p Hwf.out.1 x.v).mono ?_
          rintro e w5 ⟨rfl, ht5⟩
          refine hK _ _ rfl (inGrow ht5.1) ?_
          clear hK K
          have Ht5 := hide ht5
          have Hv5 := hide (setX_v Ht.out.trie.1 Hv.out x.p ⟨Hpos.out, Hwf.out.2⟩)
          have Hl5 := hide (Nat.le_trans (setX_len l x.p x.v) (show l.length + 1 ≤ k + 1 by have := Hlen.out; omega))
          generalize (setX l x.p x.v).l = l' at *
          clear ht5
          refine wpMix_nil ?_
          clear hcv
          go_wp2_with fail
          go_roundw
          case rel => exact ⟨k + 1, l', by omega, by omega, by go_num, Hl5.out, Hv5.out, Ht5.out.up (by omega) (by omega) (by omega)⟩
          case measure => simp [intOf]; omega
      · clear hcv cd
        go_wp2_with fail
        go_roundw
        case rel => exact ⟨k + 1, l, by omega, by omega, by go_num, by have := Hlen.out; omega, Hv.out, Ht.out.up (by omega) (by omega) (by omega)⟩
        case measure => simp [intOf]; omega
    · have hstop : (k < len ∧ ¬ k < 60) ∨ ¬ k < len := by omega
      clear hgo
      have Hl60 := hide (show l.length ≤ 60 from by have := Hlen.out; omega)
      have HS : Hid (Tri2At w l gd ge gx (.int .i64 ((l.length : Int) - 1)) wr) := hide ⟨l.length, Nat.le_refl _, rfl, by rw [List.drop_length]; exact Ht.out.up (by omega) (by omega) (by omega)⟩
      have Htr := hide Ht.out.trie
      have c0 : ∃ pa pc, wr.cell? ⟨gx, 0, none⟩ = some (.slice pa l.length pc) := by
        obtain ⟨_, D, E, X, _, _, h3, _⟩ := Ht.out
        obtain ⟨⟨⟨pa, pl, pc⟩, sv, hb, hp, _⟩, _⟩ := h3
        have hpl : pl = l.length := hp.1
        subst hpl
        exact ⟨pa, pc, hb.cell 0⟩
      obtain ⟨pa, pc, c0⟩ := c0
      clear Ht
      obtain ⟨ln, hln⟩ : ∃ ln, l.length = ln := ⟨_, rfl⟩
      have Hln := hide hln
      rw [hln] at c0 HS
      have hln1 : ln ≤ 60 := by have := Hl60.out; omega
      clear hln
      rcases hstop with ⟨h1, h2⟩ | h1
      all_goals
        go_wp2_with fail
        go_loopw [9] (Tri2At w l gd ge gx) (fun i _ => (intOf i + 1).toNat)
        case atStart => exact HS.out
        case round =>
          obtain ⟨k2, hk2, rfl, ht2⟩ := hrel
          clear HS
          cases k2 with
          | succ j =>
            rw [show (((j + 1 : Nat) : Int) - 1) = (j : Int) by omega]
            have hx : l[j]? = some (l[j]'(by omega)) := List.getElem?_eq_getElem _
            generalize l[j] = x at hx
            obtain ⟨h0, D, E, X, h1, h2, h3, h4, h5, h6, h7⟩ := ht2
            have Hx := hide hx
            have H0 := hide h0; have H1 := hide h1; have H2 := hide h2; have H3 := hide h3; have H4 := hide h4; have H5 := hide h5; have H6 := hide h6; have H7 := hide h7
            obtain ⟨⟨⟨qa, ql, qc⟩, ⟨va, vl, vc⟩, hblk, hop, hov, hXp, hXv⟩, htys, hXg, _⟩ := h3
            have hql : ql = l.length := hop.1
            have hvl : vl = l.length := hov.1
            obtain ⟨gp, hgp, _, hcx, _⟩ := own_at hop pcE_length hx
            obtain ⟨gv, hgv, _, hcy, _⟩ := own_at hov vcE_length hx
            simp only at hgp hgv
            subst hgp; subst hgv
            have hXgp : X gp := hXp gp ⟨_, rfl, rfl⟩
            have hXgv : X gv := hXv gv ⟨_, rfl, rfl⟩
            have HE1 := hide (show ¬ E gx from fun h => H6.out gx h hXg)
            have HE2 := hide (show ¬ E gp from fun h => H6.out gp h hXgp)
            have HE3 := hide (show ¬ E gv from fun h => H6.out gv h hXgv)
            have Hcx := hide (show CellsAt wr gp (j * 2) x.p.cells from hcx)
            have hg0 : ∀ z : GrowS E wr, z.v.cell? ⟨gx, 0, none⟩ = some (.slice (some ⟨gp, 0, none⟩) ql qc) := fun z => by rw [(hblk.fr z.fr HE1.out).cell 0]; rfl
            have hg1 : ∀ z : GrowS E wr, z.v.cell? ⟨gx, 1, none⟩ = some (.slice (some ⟨gv, 0, none⟩) vl vc) := fun z => by rw [(hblk.fr z.fr HE1.out).cell 1]; rfl
            have hg2 : ∀ z : GrowS E wr, z.v.cell? ⟨gv, j, none⟩ = some (.int .i64 x.v) := fun z => by have := (show CellsAt wr gv (j * 1) (vcE x) from hcy).fr z.fr HE3.out 0 _ rfl; simpa using this
            have hj1 : j < ql := by omega
            have hj2 : j < vl := by omega
            have hjn : j < ln := by have := Hln.out; omega
            have hmul : ((j : Int) * 2).toNat = j * 2 := by omega
            have hmul1 : ((j : Int) * 1).toNat = j := by omega
            have hmul2 : (j : Int).toNat = j := by omega
            have hql60 : ql ≤ 60 := by have := Hl60.out; omega
            have hvl60 : vl ≤ 60 := by have := Hl60.out; omega
            have Hvx := hide (Hv.out x (List.mem_of_getElem? hx))
            clear hx h0 h1 h2 h4 h5 h6 h7 hblk hop hov hXp hXv htys hXg hql hvl hcx hcy hXgp hXgv hk2
            go_upto_region 14 with (fail)
            refine wp_region_mix (fun W => ∃ z : GrowS E wr, W = z.v) (by kernel_rfl) (by kernel_rfl) (inGrowS (Fr.refl _ _).drew) ?_
            iterate 5 (first | (refine wpMix_skip rfl ?_; simp only [Act.put, List.setIfInBounds_toArray, List.set_cons_succ, List.set_cons_zero]) | (refine wpMix_calm rfl rfl (fun K hK => ?_); go_big_quiet_op; refine hK _ ?_; clear hK K))
            refine wpMix_load_atw rfl 28 (.tmp 85) rfl gp (j * 2) (by go_simp) x.p.cells (fun W hW => by obtain ⟨z, rfl⟩ := hW; exact Hcx.out.fr z.fr HE2.out) _ Try.underlying28 rfl (by kernel_rfl) ?_
            simp only [Act.put, List.setIfInBounds_toArray, List.set_cons_succ, List.set_cons_zero]
            iterate 5 (first | (refine wpMix_skip rfl ?_; simp only [Act.put, List.setIfInBounds_toArray, List.set_cons_succ, List.set_cons_zero]) | (refine wpMix_calm rfl rfl (fun K hK => ?_); go_big_quiet_op; refine hK _ ?_; clear hK K))
            refine wpMix_spine rfl rfl (fun K hK => ?_); go_wp2_with fail
            refine (tri_setE (H0.out.drew) (H1.out.fr (Fr.refl noB wr).drew (fun _ _ h => h)) (H2.out.fr (Fr.refl noB wr).drew (fun _ _ h => h)) (H3.out.frN (Fr.refl noB wr).drew) H4.out H5.out H6.out H7.out (by omega) (by omega) x.p (Htr.out.2 x (List.mem_of_getElem? Hx.out)).2 x.v Hvx.out.2).mono ?_
            rw [dirX_setX (show (l.drop (j + 1)).length ≤ 60 by rw [List.length_drop]; have := Hl60.out; omega) x.p Hvx.out.1, set_drop Htr.out.1 Htr.out.2 Hx.out]
            rintro e w5 ⟨rfl, hf5, ht5⟩
            refine hK _ _ rfl (inGrowS ((Fr.refl E wr).drew.tr hf5)) ?_
            clear hK K
            have Ht5 := hide ht5
            clear ht5 hf5
            refine wpMix_nil ?_
            clear hg0 hg1 hg2
            go_wp2_with fail
            go_roundw
            case rel => exact ⟨j, by have := Hln.out; omega, by go_num, Ht5.out.up (by have := Hln.out; omega) (by have := Hln.out; omega) (by have := Hl60.out; omega)⟩
            case measure => simp [intOf]
          | zero =>
            rw [show (((0 : Nat) : Int) - 1) = -1 by omega]
            rw [List.drop_zero] at ht2
            obtain ⟨h0, D, E, X, h1, h2, h3, h4⟩ := ht2
            have H0 := hide h0; have H1 := hide h1; have H2 := hide h2; have H3 := hide h3
            clear h0 h1 h2 h3 h4 hk2
            obtain ⟨q, v, bb, hq1, hq2⟩ := long_get (longE l a)
            have Hq1 := hide hq1; have Hq2 := hide hq2
            clear hq1 hq2
            go_wp2_with fail
            refine (doc_long wr X gx _ [] l H3.out Htr.out.1 Htr.out.2 a ha).mono ?_
            rintro e w4 ⟨rfl, hf4⟩
            rw [Hq1.out]
            have Hf4 := hide hf4
            clear hf4
            go_upto_region 16 with (refine wpList_store_new rfl 28 _ _ rfl _ _ (PrefixM.cells _) _ rfl rfl (by simp) (by kernel_rfl) rfl (by kernel_rfl) ?_)
            refine wp_gen (fun W => Fr noB wr W) (Hf4.out.alloc _) ?_
            intro w5 hf5
            have Hf5 := hide hf5
            clear hf5
            go_wp2_with fail
            refine (dir_look w5 D gd 200 l _ _ (H1.out.fr Hf5.out (fun _ _ h => h)) a ha).mono ?_
            rintro e w6 ⟨rfl, hf6⟩
            rw [Hq2.out]
            have Hf6 := hide (Hf5.out.tr hf6)
            clear hf6
            go_wp2_with fail
            refine (dir_look w6 E ge 200 l _ _ (H2.out.fr Hf6.out (fun _ _ h => h)) a ha).mono ?_
            rintro e w7 ⟨rfl, hf7⟩
            rw [Hq2.out]
            have Hf7 := hide (Hf6.out.tr hf7)
            have hvv : (v == v) = true := by simp
            have hbb : (bb == bb) = true := by cases bb <;> rfl
            clear hf7
            go_wp2_with fail
            refine (dir_blocks w7 D gd 200 l _ _ (H1.out.fr Hf7.out (fun _ _ h => h))).mono ?_
            rintro e w8 ⟨rfl, rfl⟩
            go_wp2_with fail
            refine (dir_blocks w8 E ge 200 l _ _ (H2.out.fr Hf7.out (fun _ _ h => h))).mono ?_
            rintro e w9 ⟨rfl, rfl⟩
            generalize ownN l = nn
            have hnn : (((nn : Nat) : Int) == ((nn : Nat) : Int)) = true := by simp
            go_wp2_with fail
            refine (dir_known w9).mono ?_
            rintro e w10 ⟨rfl, hf10⟩
            have Hf10 := hide (H0.out.tr (Hf7.out.tr hf10))
            clear hf10
            go_wp2_with fail
            go_ret
            exact ⟨rfl, Hf10.out⟩
end Go.Proofs.Ytgjabgneapdbiaa
