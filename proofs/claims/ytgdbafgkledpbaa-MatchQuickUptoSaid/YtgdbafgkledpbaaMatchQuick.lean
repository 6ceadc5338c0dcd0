/- The law MatchQuick, walked: it returns true. -/
import Derived.Test.YtgdbafgkledpbaaMatchNone
namespace Go.Proofs.Ytgdbafgkledpbaa
open Go.RowKit Go.BigFrame
set_option linter.unusedSimpArgs false
set_option linter.unusedVariables false

def quickR : RuleM := { plainR true with quick := true }
theorem quickR_wf : quickR.wf := plainR_wf true
theorem side_all (ts : List TableM) (n : Nat) (port : Int) (h1 : 0 ≤ port) (h2 : port ≤ 65535) : sideB plainS ts n port = true := by
  have h : ¬ (port < 0 ∨ 65535 < port) := by omega
  simp [sideB, plainS, h]
theorem quick_yes (ts : List TableM) (iface : ByteArray) (p : PacketM) (h1 : 0 ≤ p.src) (h2 : p.src ≤ 65535) (h3 : 0 ≤ p.dst) (h4 : p.dst ≤ 65535) : ruleB quickR ts iface p = true := by
  have e : (⟨#[]⟩ : ByteArray).toList.isEmpty = true := by decide +kernel
  have ha : 0 ≤ portA p ∧ portA p ≤ 65535 := by unfold portA; split <;> omega
  have hb : 0 ≤ portB p ∧ portB p ≤ 65535 := by unfold portB; split <;> omega
  have s1 := side_all ts p.ip.src (portA p) ha.1 ha.2
  have s2 := side_all ts p.ip.dst (portB p) hb.1 hb.2
  simp [ruleB, quickR, plainR, e, s1, s2]
/-- The first of the quick ones decides. -/
theorem quick_spec (ok : RuleM → Bool) {q : RuleM} (hq : ok q = true) (hqk : q.quick = true) (ys : List RuleM) : ∀ (xs : List RuleM) (i : Nat) (l : Int),
    (∀ (j : Nat) (r : RuleM), xs[j]? = some r → (r.quick && ok r) = true → (∀ (m : Nat) (x : RuleM), m < j → xs[m]? = some x → (x.quick && ok x) = false) → lastGo ok (xs ++ q :: ys) i l = ((i + j : Nat) : Int)) ∧
    ((∀ (m : Nat) (x : RuleM), xs[m]? = some x → (x.quick && ok x) = false) → lastGo ok (xs ++ q :: ys) i l = ((i + xs.length : Nat) : Int))
  | [], i, l => ⟨fun j r h => by simp at h, fun _ => by simp [lastGo, hq, hqk]⟩
  | r :: xs, i, l => by
    constructor
    · intro j x hj hx hno
      cases j with
      | zero =>
        simp only [List.getElem?_cons_zero, Option.some.injEq] at hj
        subst hj
        simp only [Bool.and_eq_true] at hx
        simp [lastGo, hx.1, hx.2]
      | succ j =>
        have h0 := hno 0 r (by omega) rfl
        have hr : lastGo ok (r :: xs ++ q :: ys) i l = lastGo ok (xs ++ q :: ys) (i + 1) (if ok r then (i : Int) else l) := by
          simp only [List.cons_append, lastGo]
          by_cases ho : ok r = true
          · have : r.quick = false := by simpa [ho] using h0
            simp [ho, this]
          · simp [ho]
        rw [hr, (quick_spec ok hq hqk ys xs (i + 1) _).1 j x (by simpa using hj) hx (fun m y hm hy => hno (m + 1) y (by omega) (by simpa using hy))]
        congr 1; omega
    · intro hno
      have h0 := hno 0 r rfl
      have hr : lastGo ok (r :: xs ++ q :: ys) i l = lastGo ok (xs ++ q :: ys) (i + 1) (if ok r then (i : Int) else l) := by
        simp only [List.cons_append, lastGo]
        by_cases ho : ok r = true
        · have : r.quick = false := by simpa [ho] using h0
          simp [ho, this]
        · simp [ho]
      rw [hr, (quick_spec ok hq hqk ys xs (i + 1) _).2 (fun m y hy => hno (m + 1) y (by simpa using hy))]
      congr 1; simp; omega
def QuickAt (w : World) (ok : RuleM → Bool) (rs : List RuleM) (i : Value) (wr : World) : Prop :=
  ∃ k : Nat, k ≤ rs.length ∧ i = .int .i64 k ∧ (∀ (m : Nat) (x : RuleM), m < k → rs[m]? = some x → (x.quick && ok x) = false) ∧ Fr noB w wr

attribute [local irreducible] wpMix
set_option maxRecDepth 100000 in
set_option maxHeartbeats 1000000 in
theorem law_quick (q : SlV) (rs : List RuleM) (q2 : SlV) (rs2 : List RuleM) (s : SlV) (ts : List TableM) (iface : ByteArray) (p : PacketM) (hp : p.wf) (w : World) (hq : Rules w q rs) (hq2 : Rules w q2 rs2) (hs : Tabs w s ts) (hn : q.a = none → q.cap = 0) (hn2 : q2.a = none → q2.cap = 0)
    (hb : rs.length + rs2.length ≤ 4000000) :
    Calls Try.prog 4 #[.slice q.a q.len q.cap, .slice q2.a q2.len q2.cap, .slice s.a s.len s.cap, .string iface, p.val] w fun e w' => e = .returned (.bool true) ∧ Fr noB w w' := by
  obtain ⟨a, len, cap⟩ := q
  obtain ⟨a2, len2, cap2⟩ := q2
  have hlen : len = rs.length := hq.1
  have hlen2 : len2 = rs2.length := hq2.1
  have hl2 : len ≤ 4000000 := by omega
  have Hn := hide hn; have Hn2 := hide hn2; have Hb := hide hb
  have Hs := hide hs; have Hlen := hide hlen; have Hq := hide hq; have Hlen2 := hide hlen2; have Hq2 := hide hq2
  clear hs hlen hq hn hb hlen2 hq2 hn2
  show Calls Try.prog 4 #[.slice a len cap, .slice a2 len2 cap2, .slice s.a s.len s.cap, .string iface, .agg p.cells.toArray] w _
  go_enter Try.func4, Try.ntmps4
  go_upto_region 1 with (fail)
  refine wp_gen (fun w2 => Blk w2 w.heap.size p.cells.toArray 30 ∧ Fr noB w w2) ⟨Blk.alloc_new _ _ _, (Fr.refl _ _).alloc _⟩ ?_
  rintro w1 ⟨hb1, hf⟩
  have c12 : w1.cell? ⟨w.heap.size, 12, none⟩ = some (.int .i64 p.src) := hb1.cell 12
  have c13 : w1.cell? ⟨w.heap.size, 13, none⟩ = some (.int .i64 p.dst) := hb1.cell 13
  have HB1 := hide hb1.cells; have Hf := hide hf
  clear hb1 hf c12 c13
  go_wp2_with (first | (refine wpList_build0 rfl 22 rfl Try.underlying22 (by kernel_rfl) ?_) | (refine wpList_append_new (w0 := w1) (N := 28) (cells := RuleM.cells) (xs := []) (s := ⟨some ⟨w1.heap.size, 0, none⟩, 0, 0⟩) (q := ⟨a, len, cap⟩) (ys := rs) (ok := RuleM.wf) rfl (.tmp 15) (.tmp 16) 22 rfl Try.underlying22 _ 248 rule_info (by kernel_rfl) (by decide) RuleM.length rule_mem rfl (NewL.zero _ _ (Fr.refl _ _) _ _ _) ((Fr.refl _ _).alloc _) rfl (SlOf.fr Hq.out (Hf.out.alloc _) (fun _ _ h => h) (fun _ h => h)) Hn.out (by have := Hb.out; simp [maxLen]; omega) (by have := Hb.out; simp; omega) ?_; intro s1 v1 hn1 hf1 _; have HN1 := hide hn1; have HF1 := hide hf1; clear hn1 hf1) | (refine wpList_append_new (w0 := w1) (N := 28) (cells := RuleM.cells) (xs := [] ++ rs) (s := s1) (q := ⟨a2, len2, cap2⟩) (ys := rs2) (ok := RuleM.wf) rfl (.tmp 17) (.tmp 18) 22 rfl Try.underlying22 _ 248 rule_info (by kernel_rfl) (by decide) RuleM.length rule_mem rfl HN1.out HF1.out rfl (SlOf.fr Hq2.out (Hf.out.tr HF1.out) (fun _ _ h => h) (fun _ h => h)) Hn2.out (by have := Hb.out; simp [maxLen]; omega) (by have := Hb.out; simp; omega) ?_; intro s2 v2 hn2 hf2 _; have HN2 := hide hn2; have HF2 := hide hf2; clear hn2 hf2))
  have Hwf := hide (slof_nilcap Hq.out)
  have Hwf2 := hide (slof_nilcap Hq2.out)
  have hrs : Rules v2 s2 ([] ++ rs ++ rs2) := HN2.out.slof RuleM.length (fun x hx => by
    simp only [List.nil_append, List.mem_append] at hx
    rcases hx with hx | hx
    · exact Hwf.out x hx
    · exact Hwf2.out x hx)
  refine (law_heavy s2 _ s ts _ hrs (Hs.out.fr (Hf.out.tr HF2.out))).mono ?_
  rintro e w2 ⟨b, rfl, hf2⟩
  have Hf2 := hide ((Hf.out.tr HF2.out).tr hf2)
  have HB2 := hide (HB1.out.fr (HF2.out.tr hf2) (fun h => h))
  have Hg2 := hide (show w.heap.size < w2.heap.size from block_of_cell (HB2.out 0 _ rfl))
  clear hf2 hrs HN1 HF1 HN2 HF2
  cases b with
  | true =>
    go_wp2_with fail
    go_ret
    exact ⟨rfl, Hf2.out⟩
  | false =>
    go_wp2_with (refine wpList_load_atw rfl 30 (.tmp 9) rfl _ _ rfl p.cells HB2.out _ Try.underlying30 rfl (by kernel_rfl) ?_)
    refine (law_long p _).mono ?_
    rintro e w3 ⟨b, rfl, hf3⟩
    have Hf3 := hide (Hf2.out.tr hf3)
    have HB3 := hide (HB2.out.fr hf3 (fun h => h))
    have Hg0 := hide (show w.heap.size < w3.heap.size from by have := Hg2.out; have := hf3.size; omega)
    have c12 : w3.cell? ⟨w.heap.size, 12, none⟩ = some (.int .i64 p.src) := by have := HB3.out 12 _ rfl; rwa [Nat.zero_add] at this
    have c13 : w3.cell? ⟨w.heap.size, 13, none⟩ = some (.int .i64 p.dst) := by have := HB3.out 13 _ rfl; rwa [Nat.zero_add] at this
    clear hf3 HB1 HB2 Hf Hf2 Hg2
    cases b with
    | true =>
      go_wp2_with fail
      go_ret
      exact ⟨rfl, Hf3.out⟩
    | false =>
      by_cases h1 : 100 < iface.size
      · go_wp2_with fail
        go_ret
        exact ⟨rfl, Hf3.out⟩
      by_cases h2 : p.src < 0
      · go_wp2_with fail
        go_ret
        exact ⟨rfl, Hf3.out⟩
      by_cases h3 : 65535 < p.src
      · go_wp2_with fail
        go_ret
        exact ⟨rfl, Hf3.out⟩
      by_cases h4 : p.dst < 0
      · go_wp2_with fail
        go_ret
        exact ⟨rfl, Hf3.out⟩
      by_cases h5 : 65535 < p.dst
      · go_wp2_with fail
        go_ret
        exact ⟨rfl, Hf3.out⟩
      have HY := hide (quick_yes ts iface p (by omega) (by omega) (by omega) (by omega))
      go_wp2_with fail
      clear c12 c13
      refine (law_plain true _).mono ?_
      rintro e w4 ⟨rfl, hf4⟩
      have Hf4 := hide (Hf3.out.tr hf4)
      have HB4 := hide (HB3.out.fr hf4 (fun h => h))
      have Hg4 := hide (show w.heap.size < w4.heap.size from by have := Hg0.out; have := hf4.size; omega)
      clear hf4
      go_upto_region 4 with (refine wpList_store_row rfl 43 (.tmp 11) (.tmp 51) rfl _ (plainR true).cells.toArray rfl rfl _ _ (heap_alloc_new _ _) (by kernel_rfl) rfl (rule_one _) ?_)
      refine wp_gen (fun w2 => Blk w2 w4.heap.size (plainR true).cells.toArray 43 ∧ Fr noB w4 w2) ⟨(Blk.alloc_new _ _ _).setRow, ((Fr.refl _ _).alloc _).setRow (.inl (Nat.le_refl _)) _⟩ ?_
      rintro w6 ⟨hb6, hf6⟩
      have hc6 : w6.cell? ⟨w4.heap.size, 2, none⟩ = some (.bool false) := hb6.cell 2
      have hz6 : w6.frozen? ⟨w4.heap.size, 2, none⟩ = false := hb6.free 2
      have HB6 := hide hb6; have Hf6 := hide hf6
      clear hb6 hf6
      go_upto_region 5 with (fail)
      refine wp_gen (fun w2 => Blk w2 w4.heap.size quickR.cells.toArray 43 ∧ Fr noB w4 w2) ⟨HB6.out.set 2 _, Hf6.out.setCell (p := ⟨w4.heap.size, 2, none⟩) (.inl (Nat.le_refl _)) _⟩ ?_
      rintro w7 ⟨hb7, hf7⟩
      have HB7 := hide hb7.cells; have Hf7 := hide hf7
      clear hb7 hf7 hc6 hz6
      have HF7 := hide (show Fr noB w w7 from Hf4.out.tr Hf7.out)
      refine any_start (fun W => ∃ z : Grow w7, W = z.v) 9 rfl (by kernel_rfl) (inGrow (Fr.refl _ _).drew) ?_
      have hS : ∃ z : Grow w7, w7.drew = z.v := inGrow (Fr.refl _ _).drew
      (refine any_calm 1 (by simp only [List.getElem?_toArray, List.getElem?_cons_succ, List.getElem?_cons_zero]; exact rfl) (by kernel_rfl) (by kernel_rfl) (by kernel_rfl) (by assumption) (by rfl) (by rfl) (fun K hK => ?_); go_big_quiet_op; refine hK _ ?_; clear hK K)
      refine any_load_at 3 (by simp only [List.getElem?_toArray, List.getElem?_cons_succ, List.getElem?_cons_zero]; exact rfl) (by kernel_rfl) (by kernel_rfl) (by kernel_rfl) hS (by rfl) 43 (.tmp 11) (by rfl) w4.heap.size 0 (by rfl) quickR.cells ?hc _ Try.underlying43 rfl (by kernel_rfl) ?_
      case hc => rintro _ ⟨z, rfl⟩; exact HB7.out.fr z.fr (fun h => h)
      simp only [Act.put, List.setIfInBounds_toArray, List.set_cons_succ, List.set_cons_zero]
      (refine any_calm 6 (by simp only [List.getElem?_toArray, List.getElem?_cons_succ, List.getElem?_cons_zero]; exact rfl) (by kernel_rfl) (by kernel_rfl) (by kernel_rfl) (by assumption) (by rfl) (by rfl) (fun K hK => ?_); go_big_quiet_op; refine hK _ ?_; clear hK K)
      refine any_app2 (w0 := w7) (N := 28) (cells := RuleM.cells) (ok := RuleM.wf) (q := ⟨a, len, cap⟩) (ys := rs) 0 2 4 5 53 55 57 58 54 56 rfl rfl rfl rfl rfl rfl rfl rfl rfl rfl rfl rfl rfl rfl rfl rfl
        (by kernel_rfl) (by kernel_rfl) (by kernel_rfl) (by kernel_rfl) (by kernel_rfl) (by kernel_rfl) (by decide) (by simp) (by simp) (by simp) Try.underlying22 _ 248 rule_info (by kernel_rfl) (by decide) (by decide) RuleM.length rule_mem
        quickR quickR_wf (by kernel_rfl) rfl rfl (fun W hW => SlOf.fr Hq.out (HF7.out.tr hW) (fun _ _ h => h) (fun _ h => h)) Hn.out (by have := Hb.out; omega) (by have := Hb.out; simp [maxLen]; omega) (Fr.refl _ _).drew ?_
      intro v0 v1 v2 s2 w9 hn2 hf9
      simp only [Act.put, List.setIfInBounds_toArray, List.set_cons_succ, List.set_cons_zero]
      refine any_append_new (N := 28) (cells := RuleM.cells) (s := s2) (q := ⟨a2, len2, cap2⟩) (ok := RuleM.wf) (ys := rs2) 7 (by simp only [List.getElem?_toArray, List.getElem?_cons_succ, List.getElem?_cons_zero]; exact rfl) (by kernel_rfl) (by rfl) (.tmp 58) (.tmp 59) (by rfl) Try.underlying22 _ 248 rule_info (by kernel_rfl) (by decide) RuleM.length rule_mem
        (by rfl) hn2 hf9 (by rfl) (SlOf.fr Hq2.out (HF7.out.tr hf9) (fun _ _ h => h) (fun _ h => h)) Hn2.out (by have := Hb.out; simp [maxLen]; omega) (by have := Hb.out; simp; omega) ?_
      intro s3 w10 hn3 hf10 _
      simp only [Act.put, List.setIfInBounds_toArray, List.set_cons_succ, List.set_cons_zero]
      have hS : ∃ z : Grow w7, w10 = z.v := inGrow hf10
      (refine any_calm 8 (by simp only [List.getElem?_toArray, List.getElem?_cons_succ, List.getElem?_cons_zero]; exact rfl) (by kernel_rfl) (by kernel_rfl) (by kernel_rfl) (by assumption) (by rfl) (by rfl) (fun K hK => ?_); go_big_quiet_op; refine hK _ ?_; clear hK K)
      refine any_done (by kernel_rfl) ?_
      have HF10 := hide (HF7.out.tr hf10)
      have HB10 := hide (HB4.out.fr (Hf7.out.tr hf10) (fun h => h))
      have HQ10 := hide (show Rules w10 s3 (rs ++ [quickR] ++ rs2) from hn3.slof RuleM.length (fun x hx => by
        simp only [List.mem_append, List.mem_singleton] at hx
        rcases hx with (hx | rfl) | hx
        · exact Hwf.out x hx
        · exact quickR_wf
        · exact Hwf2.out x hx))
      have HM := hide (show _ from by
        have h := quick_spec (fun r => ruleB r ts iface p) HY.out rfl rs2 rs 0 (-1)
        rw [← List.singleton_append, ← List.append_assoc] at h
        exact h)
      clear hn2 hf9 hn3 hf10 hS
      go_wp2_with (refine wpList_load_atw rfl 30 (.tmp 9) rfl _ _ rfl p.cells HB10.out _ Try.underlying30 rfl (by kernel_rfl) ?_)
      refine (match_last s3 _ p hp iface s ts _ HQ10.out (Hs.out.fr HF10.out)).mono ?_
      rintro e w11 ⟨rfl, hf11⟩
      unfold lastI
      generalize lastGo (fun r => ruleB r ts iface p) (rs ++ [quickR] ++ rs2) 0 (-1) = n at *
      have HF11 := hide (HF10.out.tr hf11)
      have HB11 := hide (HB10.out.fr hf11 (fun h => h))
      clear hf11
      go_wp2_with fail
      go_loopw [14] (QuickAt w11 (fun r => ruleB r ts iface p) rs) (fun i _ => len - (intOf i).toNat)
      case atStart => exact ⟨0, Nat.zero_le _, rfl, fun m x h => by omega, Fr.refl _ _⟩
      case round =>
        obtain ⟨k, hk, rfl, hno, hf⟩ := hrel
        have Hno := hide hno; have Hf := hide hf
        have HBk := hide (HB11.out.fr hf (fun h => h))
        clear hno hf
        by_cases hlt : k < len
        · have hk2 : k < rs.length := by have := Hlen.out; omega
          have hx : rs[k]? = some rs[k] := List.getElem?_eq_getElem hk2
          obtain ⟨b, o, rfl, hbw, hc, hok⟩ := SlOf.at (SlOf.fr Hq.out (HF11.out.tr Hf.out) (fun _ _ h => h) (fun _ h => h)) hx
          have Hx := hide hx; have Hok := hide hok; have Hc := hide hc
          clear hx hok hc hk
          generalize rs[k] = r at *
          have hmul : ((k : Int) * 28).toNat = k * 28 := by omega
          have hCR : ∀ W, (∃ z : Grow wr, W = z.v) → CellsAt W b (o + k * 28) r.cells := by rintro _ ⟨z, rfl⟩; exact Hc.out.fr z.fr (fun h => h)
          have hCP : ∀ W, (∃ z : Grow wr, W = z.v) → CellsAt W w.heap.size 0 p.cells := by rintro _ ⟨z, rfl⟩; exact HBk.out.fr z.fr (fun h => h)
          have HCR := hide hCR; have HCP := hide hCP
          have hq2 : ∀ z : Grow wr, z.v.cell? ⟨b, o + k * 28 + 2, none⟩ = some (.bool r.quick) := fun z => hCR z.v ⟨z, rfl⟩ 2 _ rfl
          clear hCR hCP
          cases hqk : r.quick with
          | false =>
            have Hqk := hide hqk
            rw [hqk] at hq2
            clear hqk
            go_upto_region 10 with (fail)
            refine wp_region_mix (fun W => ∃ z : Grow wr, W = z.v) (by kernel_rfl) (by kernel_rfl) (inGrow (Fr.refl _ _).drew) ?_
            repeat (first | (refine wpMix_skip rfl ?_; simp only [Act.put, List.setIfInBounds_toArray, List.set_cons_succ, List.set_cons_zero]) | (refine wpMix_calm rfl rfl (fun K hK => ?_); go_big_quiet_op; refine hK _ ?_; clear hK K))
            refine wpMix_nil ?_
            go_wp2_with fail
            go_roundw
            case rel =>
              refine ⟨k + 1, by omega, by go_num, fun m x hm hx => ?_, Hf.out.drew⟩
              by_cases e : m = k
              · subst e
                rw [Hx.out] at hx
                obtain rfl := Option.some.inj hx
                simp [Hqk.out]
              · exact Hno.out m x (by omega) hx
            case measure => simp [intOf]; omega
          | true =>
            have Hqk := hide hqk
            rw [hqk] at hq2
            clear hqk
            go_upto_region 10 with (fail)
            refine wp_region_mix (fun W => ∃ z : Grow wr, W = z.v) (by kernel_rfl) (by kernel_rfl) (inGrow (Fr.refl _ _).drew) ?_
            iterate 9 (first | (refine wpMix_skip rfl ?_; simp only [Act.put, List.setIfInBounds_toArray, List.set_cons_succ, List.set_cons_zero]) | (refine wpMix_calm rfl rfl (fun K hK => ?_); go_big_quiet_op; refine hK _ ?_; clear hK K))
            refine wpMix_load_atw rfl 43 (.tmp 80) rfl _ _ rfl r.cells HCR.out _ Try.underlying43 rfl (by kernel_rfl) ?_
            simp only [Act.put, List.setIfInBounds_toArray, List.set_cons_succ, List.set_cons_zero]
            iterate 2 (first | (refine wpMix_skip rfl ?_; simp only [Act.put, List.setIfInBounds_toArray, List.set_cons_succ, List.set_cons_zero]) | (refine wpMix_calm rfl rfl (fun K hK => ?_); go_big_quiet_op; refine hK _ ?_; clear hK K))
            refine wpMix_load_atw rfl 30 (.tmp 9) rfl _ _ rfl p.cells HCP.out _ Try.underlying30 rfl (by kernel_rfl) ?_
            simp only [Act.put, List.setIfInBounds_toArray, List.set_cons_succ, List.set_cons_zero]
            clear hq2
            refine wpMix_spine rfl rfl (fun K hK => ?_); go_wp2_with fail
            refine (ref_one r Hok.out p hp iface s ts _ (Hs.out.fr ((HF11.out.tr Hf.out).drew))).mono ?_
            rintro e w7 ⟨rfl, hf7⟩
            have hf7 : Fr noB wr w7 := (Fr.refl _ _).drew.tr hf7
            have Hf7 := hide hf7
            refine hK _ _ rfl (inGrow hf7) ?_
            clear hK K hf7
            cases hrb : ruleB r ts iface p with
            | false =>
              have Hrb := hide hrb
              clear hrb
              repeat (first | (refine wpMix_skip rfl ?_; simp only [Act.put, List.setIfInBounds_toArray, List.set_cons_succ, List.set_cons_zero]) | (refine wpMix_calm rfl rfl (fun K hK => ?_); go_big_quiet_op; refine hK _ ?_; clear hK K))
              refine wpMix_nil ?_
              go_wp2_with fail
              go_roundw
              case rel =>
                refine ⟨k + 1, by omega, by go_num, fun m x hm hx => ?_, Hf.out.tr Hf7.out⟩
                by_cases e : m = k
                · subst e
                  rw [Hx.out] at hx
                  obtain rfl := Option.some.inj hx
                  simp [Hrb.out]
                · exact Hno.out m x (by omega) hx
              case measure => simp [intOf]; omega
            | true =>
              have hn : n = ((0 + k : Nat) : Int) := HM.out.1 k r Hx.out (by simp [Hqk.out, hrb]) Hno.out
              rw [Nat.zero_add] at hn
              subst hn
              clear hrb
              repeat (first | (refine wpMix_skip rfl ?_; simp only [Act.put, List.setIfInBounds_toArray, List.set_cons_succ, List.set_cons_zero]) | (refine wpMix_calm rfl rfl (fun K hK => ?_); go_big_quiet_op; refine hK _ ?_; clear hK K))
              refine wpMix_nil ?_
              go_wp2_with fail
              refine (law_known _).mono ?_
              rintro e w8 ⟨rfl, hf8⟩
              have Hf8 := hide hf8
              clear hf8
              go_wp2_with fail
              go_ret
              exact ⟨rfl, ((HF11.out.tr Hf.out).tr Hf7.out).tr Hf8.out⟩
        · have hn : n = ((0 + rs.length : Nat) : Int) := HM.out.2 (fun m x hx => Hno.out m x (by have := (List.getElem?_eq_some_iff.1 hx).1; have := Hlen.out; omega) hx)
          rw [Nat.zero_add, ← Hlen.out] at hn
          subst hn
          go_wp2_with fail
          refine (law_known _).mono ?_
          rintro e w8 ⟨rfl, hf8⟩
          have Hf8 := hide hf8
          clear hf8
          go_wp2_with fail
          go_ret
          exact ⟨rfl, (HF11.out.tr Hf.out).tr Hf8.out⟩
end Go.Proofs.Ytgdbafgkledpbaa
