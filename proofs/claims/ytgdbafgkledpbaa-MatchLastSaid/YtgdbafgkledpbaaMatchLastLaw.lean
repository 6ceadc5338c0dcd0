/- The law MatchLast, walked: it returns true. -/
import Derived.Test.YtgdbafgkledpbaaMatchKnown
import Derived.Test.YtgdbafgkledpbaaOwn0
namespace Go.Proofs.Ytgdbafgkledpbaa
open Go.RowKit Go.BigFrame
set_option linter.unusedSimpArgs false
set_option linter.unusedVariables false

/-- Without quick rules. -/
theorem last_spec (ok : RuleM → Bool) : ∀ (rs : List RuleM) (hq : ∀ r ∈ rs, r.quick = false) (k : Nat) (l : Int),
    (lastGo ok rs k l = l ∧ ∀ (i : Nat) (r : RuleM), rs[i]? = some r → ok r = false) ∨
    ∃ (j : Nat) (r : RuleM), rs[j]? = some r ∧ ok r = true ∧ lastGo ok rs k l = (k + j : Nat) ∧ ∀ (i : Nat) (x : RuleM), j < i → rs[i]? = some x → ok x = false
  | [], _, k, l => .inl ⟨rfl, fun i r h => by simp at h⟩
  | r :: rs, hq, k, l => by
    have hqr : r.quick = false := hq r (List.mem_cons_self ..)
    have hqs : ∀ x ∈ rs, x.quick = false := fun x hx => hq x (List.mem_cons_of_mem _ hx)
    have e : lastGo ok (r :: rs) k l = if ok r then lastGo ok rs (k + 1) (k : Int) else lastGo ok rs (k + 1) l := by
      rw [lastGo, hqr]; rfl
    by_cases ho : ok r = true
    · rw [if_pos ho] at e
      rcases last_spec ok rs hqs (k + 1) (k : Int) with ⟨h1, h2⟩ | ⟨j, x, h1, h2, h3, h4⟩
      · refine .inr ⟨0, r, rfl, ho, by rw [e, h1]; simp, fun i x hi hx => ?_⟩
        obtain ⟨i, rfl⟩ := Nat.exists_eq_succ_of_ne_zero (by omega : i ≠ 0)
        exact h2 i x (by simpa using hx)
      · refine .inr ⟨j + 1, x, by simpa using h1, h2, by rw [e, h3]; congr 1; omega, fun i x hi hx => ?_⟩
        obtain ⟨i, rfl⟩ := Nat.exists_eq_succ_of_ne_zero (by omega : i ≠ 0)
        exact h4 i x (by omega) (by simpa using hx)
    · rw [if_neg ho] at e
      have ho' : ok r = false := by simpa using ho
      rcases last_spec ok rs hqs (k + 1) l with ⟨h1, h2⟩ | ⟨j, x, h1, h2, h3, h4⟩
      · refine .inl ⟨by rw [e, h1], fun i x hx => ?_⟩
        cases i with
        | zero => simp at hx; subst hx; exact ho'
        | succ i => exact h2 i x (by simpa using hx)
      · refine .inr ⟨j + 1, x, by simpa using h1, h2, by rw [e, h3]; congr 1; omega, fun i x hi hx => ?_⟩
        obtain ⟨i, rfl⟩ := Nat.exists_eq_succ_of_ne_zero (by omega : i ≠ 0)
        exact h4 i x (by omega) (by simpa using hx)

def nq (r : RuleM) : RuleM := { r with quick := false }
theorem nq_wf {r : RuleM} (h : r.wf) : (nq r).wf := h
theorem nq_cells (r : RuleM) : (nq r).cells = r.cells.set 2 (.bool false) := rfl
def clr (k : Nat) (rs : List RuleM) : List RuleM := (rs.take k).map nq ++ rs.drop k
theorem clr_get {rs : List RuleM} {k : Nat} {r : RuleM} (h : rs[k]? = some r) : (clr k rs)[k]? = some r := by
  obtain ⟨hk, he⟩ := List.getElem?_eq_some_iff.1 h
  unfold clr
  rw [List.getElem?_append_right (by simp; omega)]
  simp [List.length_map, List.length_take, Nat.min_eq_left (Nat.le_of_lt hk), h]
theorem clr_step {rs : List RuleM} {k : Nat} {r : RuleM} (h : rs[k]? = some r) : (clr k rs).set k (nq r) = clr (k + 1) rs := by
  obtain ⟨hk, rfl⟩ := List.getElem?_eq_some_iff.1 h
  unfold clr
  have h0 : k - ((rs.take k).map nq).length = 0 := by simp; omega
  rw [List.set_append_right _ _ (by simp; omega), List.take_succ_eq_append_getElem hk, List.drop_eq_getElem_cons hk, h0, List.map_append, List.append_assoc]
  rfl
theorem clr_all (rs : List RuleM) : clr rs.length rs = rs.map nq := by simp [clr]
theorem clr_length {rs : List RuleM} {k : Nat} : (clr k rs).length = rs.length := by simp [clr]; omega

theorem slof_ok {α : Type} {w : World} {N : Nat} {cells : α → List Value} {ok : α → Prop} {s : SlV} {xs : List α} (h : SlOf w N cells ok s xs) : ∀ x ∈ xs, ok x := fun x hx => by
  obtain ⟨k, hk⟩ := List.getElem?_of_mem hx
  obtain ⟨_, _, _, _, _, ho⟩ := SlOf.at h hk
  exact ho
def ClrAt (w : World) (s : SlV) (rs : List RuleM) (i : Value) (wr : World) : Prop :=
  ∃ k : Nat, k ≤ rs.length ∧ i = .int .i64 k ∧ OwnL wr 43 28 RuleM.cells s (clr k rs) ∧ Fr (ownB s) w wr
def FromAt (w : World) (m n : Nat) (i : Value) (wr : World) : Prop := ∃ k : Nat, m ≤ k ∧ k ≤ n ∧ i = .int .i64 k ∧ Fr noB w wr

attribute [local irreducible] wpMix
set_option maxRecDepth 100000 in
set_option maxHeartbeats 1000000 in
theorem law_last (q : SlV) (rs : List RuleM) (s : SlV) (ts : List TableM) (iface : ByteArray) (p : PacketM) (hp : p.wf) (w : World) (hq : Rules w q rs) (hs : Tabs w s ts) (hn : q.a = none → q.cap = 0) (hb : rs.length * 248 ≤ reachBytes) :
    Calls Try.prog 5 #[.slice q.a q.len q.cap, .slice s.a s.len s.cap, .string iface, p.val] w fun e w' => e = .returned (.bool true) ∧ Fr noB w w' := by
  have hmax : rs.length ≤ maxLen := by rw [← hq.1]; exact hq.2.1
  obtain ⟨a, len, cap⟩ := q
  have hlen : len = rs.length := hq.1
  have Hn := hide hn; have Hb := hide hb; have Hmax := hide hmax
  have Hs := hide hs; have Hlen := hide hlen; have Hq := hide hq
  clear hs hlen hq hn hb hmax
  show Calls Try.prog 5 #[.slice a len cap, .slice s.a s.len s.cap, .string iface, .agg p.cells.toArray] w _
  go_enter Try.func5, Try.ntmps5
  go_upto_region 1 with (fail)
  refine wp_gen (fun w2 => Blk w2 w.heap.size p.cells.toArray 30 ∧ Fr noB w w2) ⟨Blk.alloc_new _ _ _, (Fr.refl _ _).alloc _⟩ ?_
  rintro w1 ⟨hb1, hf⟩
  have HB1 := hide hb1.cells; have Hf := hide hf
  clear hb1 hf
  go_wp2_with fail
  refine (law_heavy ⟨a, len, cap⟩ rs s ts _ (SlOf.fr Hq.out Hf.out (fun _ _ h => h) (fun _ h => h)) (Hs.out.fr Hf.out)).mono ?_
  rintro e w2 ⟨b, rfl, hf2⟩
  have Hf2 := hide (Hf.out.tr hf2)
  have HB2 := hide (HB1.out.fr hf2 (fun h => h))
  clear hf2
  cases b with
  | true =>
    go_wp2_with fail
    go_ret
    exact ⟨rfl, Hf2.out⟩
  | false =>
    go_wp2_with (refine wpList_load_atw rfl 30 (.tmp 7) rfl _ _ rfl p.cells HB2.out _ Try.underlying30 rfl (by kernel_rfl) ?_)
    refine (law_long p _).mono ?_
    rintro e w3 ⟨b, rfl, hf3⟩
    have Hf3 := hide (Hf2.out.tr hf3)
    have HB3 := hide (HB2.out.fr hf3 (fun h => h))
    clear hf3
    cases b with
    | true =>
      go_wp2_with fail
      go_ret
      exact ⟨rfl, Hf3.out⟩
    | false =>
      by_cases h1 : 100 < iface.size
      · go_wp2_with fail
        go_ret
        exact ⟨rfl, Hf3.out⟩
      have Hg0 := hide (show w.heap.size < w3.heap.size from block_of_cell (HB3.out 0 _ rfl))
      clear HB1 HB2 Hf Hf2
      go_upto_region 4 with (first | (refine wpList_build0 rfl 22 rfl Try.underlying22 (by kernel_rfl) ?_) | (refine wpList_append_rows (N := 28) (cells := RuleM.cells) (xs := []) (s := ⟨some ⟨w3.heap.size, 0, none⟩, 0, 0⟩) (q := ⟨a, len, cap⟩) (ys := rs) (ok := RuleM.wf) rfl (.tmp 25) (.tmp 26) 22 rfl Try.underlying22 (.agg plainZ.toArray) 248 (by kernel_rfl) (by kernel_rfl) (by decide) RuleM.length (fun r u hu => by simpa using List.all_eq_true.1 (by simpa using rule_one r) u hu) rfl (ownl_0 _ _ _ _) rfl (SlOf.fr Hq.out (Hf3.out.alloc _) (fun _ _ h => h) (fun _ h => h)) Hn.out (by simpa using Hmax.out) (by have := Hb.out; have := reachBytes_lt; simp only [List.length_nil, Nat.zero_add]; omega) ?_; rintro s' w4 ho4 hf4 hor))
      have Hown : Hid (∀ b, ownB s' b → w3.heap.size ≤ b) := hide (by
        rintro b ⟨x, hx, rfl⟩
        rcases hor with ⟨h, _⟩ | ⟨g', h, hg, _⟩
        · rw [h] at hx; simp only [Option.some.injEq] at hx; subst hx; exact Nat.le_refl _
        · rw [h] at hx; simp only [Option.some.injEq] at hx; subst hx; simp only [World.size_alloc] at hg; simp only; omega)
      have Hf4 := hide (Hf3.out.tr (Fr.trans ((Fr.refl noB w3).alloc (.cells #[] 43)) hf4 (fun _ _ h => h) (fun x hx hs => by
        obtain ⟨y, hy, rfl⟩ := hs
        simp only [Option.some.injEq] at hy
        subst hy
        simp only at hx
        omega)))
      have HB4 := hide (HB3.out.fr ((Fr.refl noB w3).alloc (.cells #[] 43)) (fun h => h) |>.fr hf4 (fun h => by obtain ⟨y, hy, hb⟩ := h; simp only [Option.some.injEq] at hy; subst hy; have := Hg0.out; simp only at hb; omega))
      obtain ⟨sa, sl, sc⟩ := s'
      have Hsl := hide (show sl = rs.length from ho4.1)
      have hmax2 : sl ≤ 2 ^ 63 - 1 := by rw [Hsl.out]; exact Hmax.out
      have Ho4 := hide ho4
      clear ho4 hf4 hor HB3 Hf3
      go_wp2_with fail
      go_loopw [10] (ClrAt w4 ⟨sa, sl, sc⟩ rs) (fun i _ => rs.length - (intOf i).toNat)
      case atStart => exact ⟨0, Nat.zero_le _, rfl, Ho4.out, Fr.refl _ _⟩
      case round =>
        obtain ⟨k, hk, rfl, ho, hf⟩ := hrel
        by_cases hlt : k < sl
        · have hk2 : k < rs.length := by have := Hsl.out; omega
          have hx : rs[k]? = some rs[k] := List.getElem?_eq_getElem hk2
          have hx2 := clr_get hx
          have hst := clr_step hx
          obtain ⟨_, ⟨h0⟩ | ⟨g, junk, rfl, hb, hl, hle, hcm⟩⟩ := ho
          · simp only [SlV.mk.injEq] at h0; omega
          have ho : OwnL wr 43 28 RuleM.cells ⟨some ⟨g, 0, none⟩, sl, sc⟩ (clr k rs) := ⟨by rw [clr_length]; exact Hsl.out, .inr ⟨g, junk, rfl, hb, hl, hle, hcm⟩⟩
          have hset := ho.setField RuleM.length (g := g) rfl hx2 (j := 2) (u := .bool false) (by decide) (nq_cells rs[k])
          rw [hst] at hset
          have hc : wr.cell? ⟨g, k * 28 + 2, none⟩ = some (.bool rs[k].quick) := by
            rw [hb.cell, List.getElem?_toArray, flat_get RuleM.length junk _ k rs[k] 2 hx2 (by decide)]; rfl
          have hz : wr.frozen? ⟨g, k * 28 + 2, none⟩ = false := hb.free _
          have Hset := hide hset
          have Hf := hide hf
          clear hset hf ho hb hl hle hcm hx hx2 hst
          generalize rs[k] = r at *
          have hmul : ((k : Int) * 28).toNat = k * 28 := by omega
          go_wp2_with fail
          go_roundw
          case rel => exact ⟨k + 1, by omega, by go_num, Hset.out, Hf.out.setCell (p := ⟨g, k * 28 + 2, none⟩) (.inr ⟨⟨g, 0, none⟩, rfl, rfl⟩) _⟩
          case measure => simp [intOf]; omega
        · have hkl : k = rs.length := by have := Hsl.out; omega
          subst hkl
          rw [clr_all] at ho
          have Hwf := hide (show ∀ r ∈ rs, r.wf from slof_ok Hq.out)
          have Hq2 := hide (show Rules wr ⟨sa, sl, sc⟩ (rs.map nq) from ho.slof RuleM.length (fun x hx => by obtain ⟨y, hy, rfl⟩ := List.mem_map.1 hx; exact Hwf.out y hy))
          have HF := hide (show Fr noB w wr from Fr.trans Hf4.out hf (fun _ _ h => h) (fun x hx hs => by obtain ⟨y, hy, hb⟩ := hs; have := Hown.out x ⟨y, hy, hb⟩; have := Hg0.out; omega))
          have HBr := hide (show CellsAt wr w.heap.size 0 p.cells from HB4.out.fr hf (fun hs => by have := Hown.out _ hs; have := Hg0.out; omega))
          have HLn := hide (show (rs.map nq).length = rs.length by simp)
          have HNq := hide (show ∀ r ∈ rs.map nq, r.quick = false from fun x hx => by obtain ⟨y, hy, rfl⟩ := List.mem_map.1 hx; rfl)
          have Hwf2 := hide (show ∀ r ∈ rs.map nq, r.wf from fun x hx => by obtain ⟨y, hy, rfl⟩ := List.mem_map.1 hx; exact Hwf.out y hy)
          clear ho hf Hown Ho4 Hf4 HB4 Hwf
          generalize rs.map nq = qs at *
          go_wp2_with (refine wpList_load_atw rfl 30 (.tmp 7) rfl _ _ rfl p.cells HBr.out _ Try.underlying30 rfl (by kernel_rfl) ?_)
          refine (match_last ⟨sa, sl, sc⟩ qs p hp iface s ts _ Hq2.out (Hs.out.fr HF.out)).mono ?_
          rintro e w5 ⟨rfl, hf5⟩
          have Hf5 := hide (HF.out.tr hf5)
          have HB5 := hide (HBr.out.fr hf5 (fun h => h))
          have Hq5 := hide (show Rules w5 ⟨sa, sl, sc⟩ qs from SlOf.fr Hq2.out hf5 (fun _ _ h => h) (fun _ h => h))
          clear hf5 HF HBr Hq2
          have hsp := last_spec (fun r => ruleB r ts iface p) qs HNq.out 0 (-1)
          unfold lastI
          generalize lastGo (fun r => ruleB r ts iface p) qs 0 (-1) = n at *
          have rest : ∀ (m : Nat) (c : Code), True := fun _ _ => trivial
          rcases hsp with ⟨hn, hall⟩ | ⟨j, r, hj, hok, hn, hall⟩
          · subst hn
            have Hall := hide hall
            clear hall
            have g1 : decide ((sl : Int) ≤ -1) = false := by simp; omega
            go_upto_region 9 with (fail)
            refine wp_region_mix (fun W => ∃ z : Grow w5, W = z.v) (by kernel_rfl) (by kernel_rfl) (inGrow (Fr.refl _ _).drew) ?_
            repeat (first | (refine wpMix_skip rfl ?_; simp only [Act.put, List.setIfInBounds_toArray, List.set_cons_succ, List.set_cons_zero]) | (refine wpMix_calm rfl rfl (fun K hK => ?_); go_big_quiet_op; refine hK _ ?_; clear hK K))
            refine wpMix_nil ?_
            have Hf6 := hide (Hf5.out.drew); have HB6 := hide (HB5.out.fr ((Fr.refl noB _).drew) (fun h => h)); have Hq6 := hide (show Rules w5.drew ⟨sa, sl, sc⟩ qs from SlOf.fr Hq5.out ((Fr.refl noB _).drew) (fun _ _ h => h) (fun _ h => h))
            go_wp2_with fail
            go_loopw [12] (FromAt w5.drew 0 rs.length) (fun i _ => rs.length - (intOf i).toNat)
            case atStart => exact ⟨0, Nat.le_refl _, by have := Hsl.out; omega, by go_num, Fr.refl _ _⟩
            case round =>
              obtain ⟨k, hmk, hk, rfl, hf⟩ := hrel
              have Hf := hide hf
              have HBk := hide (HB6.out.fr hf (fun h => h))
              clear hf
              by_cases hlt : k < sl
              · have hk2 : k < qs.length := by have := Hsl.out; have := HLn.out; omega
                have hx : qs[k]? = some qs[k] := List.getElem?_eq_getElem hk2
                have hno := Hall.out k _ hx
                obtain ⟨b, o, rfl, hbw, hc, hok⟩ := SlOf.at (SlOf.fr Hq6.out Hf.out (fun _ _ h => h) (fun _ h => h)) hx
                have Hx := hide hx; have Hok := hide hok; have Hc := hide hc; have Hno := hide hno
                clear hx hok hc hno
                generalize qs[k] = r at *
                have hmul : ((k : Int) * 28).toNat = k * 28 := by omega
                go_upto_region 14 with (fail)
                refine wp_region_mix (fun W => ∃ z : Grow wr, W = z.v) (by kernel_rfl) (by kernel_rfl) (inGrow (Fr.refl _ _).drew) ?_
                have hCR : ∀ W, (∃ z : Grow wr, W = z.v) → CellsAt W b (o + k * 28) r.cells := by rintro _ ⟨z, rfl⟩; exact Hc.out.fr z.fr (fun h => h)
                have hCP : ∀ W, (∃ z : Grow wr, W = z.v) → CellsAt W w.heap.size 0 p.cells := by rintro _ ⟨z, rfl⟩; exact HBk.out.fr z.fr (fun h => h)
                have HCR := hide hCR; have HCP := hide hCP
                clear hCR hCP
                iterate 3 (first | (refine wpMix_skip rfl ?_; simp only [Act.put, List.setIfInBounds_toArray, List.set_cons_succ, List.set_cons_zero]) | (refine wpMix_calm rfl rfl (fun K hK => ?_); go_big_quiet_op; refine hK _ ?_; clear hK K))
                refine wpMix_load_at rfl 43 (.tmp 76) rfl _ _ rfl r.cells HCR.out _ Try.underlying43 rfl (by kernel_rfl) ?_
                simp only [Act.put, List.setIfInBounds_toArray, List.set_cons_succ, List.set_cons_zero]
                iterate 2 (first | (refine wpMix_skip rfl ?_; simp only [Act.put, List.setIfInBounds_toArray, List.set_cons_succ, List.set_cons_zero]) | (refine wpMix_calm rfl rfl (fun K hK => ?_); go_big_quiet_op; refine hK _ ?_; clear hK K))
                refine wpMix_load_at rfl 30 (.tmp 7) rfl _ _ rfl p.cells HCP.out _ Try.underlying30 rfl (by kernel_rfl) ?_
                simp only [Act.put, List.setIfInBounds_toArray, List.set_cons_succ, List.set_cons_zero]
                refine wpMix_spine rfl rfl (fun K hK => ?_); go_wp2_with fail
                refine (match_one r Hok.out p hp iface s ts _ (Hs.out.fr ((Hf6.out.tr Hf.out).drew))).mono ?_
                rintro e w7 ⟨rfl, hf7⟩
                rw [Hno.out]
                have hf7 : Fr noB wr w7 := (Fr.refl _ _).drew.tr hf7
                have Hf7 := hide hf7
                refine hK _ _ rfl (inGrow hf7) ?_
                clear hK K hf7
                refine wpMix_nil ?_
                go_wp2_with fail
                go_roundw
                case rel => exact ⟨k + 1, by omega, by have := HLn.out; omega, by go_num, Hf.out.tr Hf7.out⟩
                case measure => simp [intOf]; omega
              · go_wp2_with fail
                refine (law_known _).mono ?_
                rintro e w8 ⟨rfl, hf8⟩
                have Hf8 := hide hf8
                clear hf8
                go_wp2_with fail
                go_ret
                exact ⟨rfl, (Hf6.out.tr Hf.out).tr Hf8.out⟩
          · have hjl : j < rs.length := by have := (List.getElem?_eq_some_iff.1 hj).1; have := HLn.out; omega
            obtain ⟨b, o, hsa, hbw, hc, hwf⟩ := SlOf.at Hq5.out hj
            simp only at hsa
            subst hn hsa
            have Hall := hide hall; have Hc := hide hc; have Hwf := hide hwf; have Hok := hide hok
            have g1 : decide ((sl : Int) ≤ ((0 + j : Nat) : Int)) = false := by have := Hsl.out; simp; omega
            clear hall hc hwf hok hj
            have hCR : ∀ W, (∃ z : Grow w5, W = z.v) → CellsAt W b (o + j * 28) r.cells := by rintro _ ⟨z, rfl⟩; exact Hc.out.fr z.fr (fun h => h)
            have hCP : ∀ W, (∃ z : Grow w5, W = z.v) → CellsAt W w.heap.size 0 p.cells := by rintro _ ⟨z, rfl⟩; exact HB5.out.fr z.fr (fun h => h)
            have HCR := hide hCR; have HCP := hide hCP
            clear hCR hCP
            have hmul : ((j : Int) * 28).toNat = j * 28 := by omega
            rw [Nat.zero_add] at *
            have g0 : decide ((j : Int) < -1) = false := by simp
            have hjl2 : j < sl := by have := Hsl.out; omega
            have g1' : decide (sl ≤ j) = false := by have := Hsl.out; simp; omega
            have g3 : decide (0 ≤ (j : Int)) = true := by simp
            go_upto_region 9 with (fail)
            refine wp_region_mix (fun W => ∃ z : Grow w5, W = z.v) (by kernel_rfl) (by kernel_rfl) (inGrow (Fr.refl _ _).drew) ?_
            iterate 9 (first | (refine wpMix_skip rfl ?_; simp only [Act.put, List.setIfInBounds_toArray, List.set_cons_succ, List.set_cons_zero]) | (refine wpMix_calm rfl rfl (fun K hK => ?_); go_big_quiet_op; refine hK _ ?_; clear hK K))
            iterate 6 (first | (refine wpMix_skip rfl ?_; simp only [Act.put, List.setIfInBounds_toArray, List.set_cons_succ, List.set_cons_zero]) | (refine wpMix_calm rfl rfl (fun K hK => ?_); go_big_quiet_op; refine hK _ ?_; clear hK K))
            refine wpMix_load_atw rfl 43 (.tmp 57) rfl _ _ rfl r.cells HCR.out _ Try.underlying43 rfl (by kernel_rfl) ?_
            simp only [Act.put, List.setIfInBounds_toArray, List.set_cons_succ, List.set_cons_zero]
            iterate 2 (first | (refine wpMix_skip rfl ?_; simp only [Act.put, List.setIfInBounds_toArray, List.set_cons_succ, List.set_cons_zero]) | (refine wpMix_calm rfl rfl (fun K hK => ?_); go_big_quiet_op; refine hK _ ?_; clear hK K))
            refine wpMix_load_atw rfl 30 (.tmp 7) rfl _ _ rfl p.cells HCP.out _ Try.underlying30 rfl (by kernel_rfl) ?_
            simp only [Act.put, List.setIfInBounds_toArray, List.set_cons_succ, List.set_cons_zero]
            refine wpMix_spine rfl rfl (fun K hK => ?_); go_wp2_with fail
            refine (match_one r Hwf.out p hp iface s ts _ (Hs.out.fr Hf5.out.drew)).mono ?_
            rintro e w6 ⟨rfl, hf6⟩
            rw [Hok.out]
            have hf6 : Fr noB w5 w6 := (Fr.refl _ _).drew.tr hf6
            refine hK _ _ rfl (inGrow hf6) ?_
            have Hf6 := hide (Hf5.out.tr hf6); have HB6 := hide (HB5.out.fr hf6 (fun h => h)); have Hq6 := hide (show Rules w6 ⟨some ⟨b, o, none⟩, sl, sc⟩ qs from SlOf.fr Hq5.out hf6 (fun _ _ h => h) (fun _ h => h))
            clear hK K hf6 Hwf Hok Hc
            repeat (first | (refine wpMix_skip rfl ?_; simp only [Act.put, List.setIfInBounds_toArray, List.set_cons_succ, List.set_cons_zero]) | (refine wpMix_calm rfl rfl (fun K hK => ?_); go_big_quiet_op; refine hK _ ?_; clear hK K))
            refine wpMix_nil ?_
            go_wp2_with fail
            go_loopw [12] (FromAt w6 (j + 1) rs.length) (fun i _ => rs.length - (intOf i).toNat)
            case atStart => exact ⟨(j + 1), Nat.le_refl _, by have := Hsl.out; omega, by go_num, Fr.refl _ _⟩
            case round =>
              obtain ⟨k, hmk, hk, rfl, hf⟩ := hrel
              have Hf := hide hf
              have HBk := hide (HB6.out.fr hf (fun h => h))
              clear hf
              by_cases hlt : k < sl
              · have hk2 : k < qs.length := by have := Hsl.out; have := HLn.out; omega
                have hx : qs[k]? = some qs[k] := List.getElem?_eq_getElem hk2
                have hno := Hall.out k _ (by omega) hx
                obtain ⟨b', o', hbo, hbw, hc, hok⟩ := SlOf.at (SlOf.fr Hq6.out Hf.out (fun _ _ h => h) (fun _ h => h)) hx
                obtain ⟨rfl, rfl⟩ : b = b' ∧ o = o' := by simpa using hbo
                have Hx := hide hx; have Hok := hide hok; have Hc := hide hc; have Hno := hide hno
                clear hx hok hc hno hbo
                generalize qs[k] = r2 at *
                have hmul : ((k : Int) * 28).toNat = k * 28 := by omega
                go_upto_region 14 with (fail)
                refine wp_region_mix (fun W => ∃ z : Grow wr, W = z.v) (by kernel_rfl) (by kernel_rfl) (inGrow (Fr.refl _ _).drew) ?_
                have hCR : ∀ W, (∃ z : Grow wr, W = z.v) → CellsAt W b (o + k * 28) r2.cells := by rintro _ ⟨z, rfl⟩; exact Hc.out.fr z.fr (fun h => h)
                have hCP : ∀ W, (∃ z : Grow wr, W = z.v) → CellsAt W w.heap.size 0 p.cells := by rintro _ ⟨z, rfl⟩; exact HBk.out.fr z.fr (fun h => h)
                have HCR := hide hCR; have HCP := hide hCP
                clear hCR hCP
                iterate 3 (first | (refine wpMix_skip rfl ?_; simp only [Act.put, List.setIfInBounds_toArray, List.set_cons_succ, List.set_cons_zero]) | (refine wpMix_calm rfl rfl (fun K hK => ?_); go_big_quiet_op; refine hK _ ?_; clear hK K))
                refine wpMix_load_at rfl 43 (.tmp 76) rfl _ _ rfl r2.cells HCR.out _ Try.underlying43 rfl (by kernel_rfl) ?_
                simp only [Act.put, List.setIfInBounds_toArray, List.set_cons_succ, List.set_cons_zero]
                iterate 2 (first | (refine wpMix_skip rfl ?_; simp only [Act.put, List.setIfInBounds_toArray, List.set_cons_succ, List.set_cons_zero]) | (refine wpMix_calm rfl rfl (fun K hK => ?_); go_big_quiet_op; refine hK _ ?_; clear hK K))
                refine wpMix_load_at rfl 30 (.tmp 7) rfl _ _ rfl p.cells HCP.out _ Try.underlying30 rfl (by kernel_rfl) ?_
                simp only [Act.put, List.setIfInBounds_toArray, List.set_cons_succ, List.set_cons_zero]
                refine wpMix_spine rfl rfl (fun K hK => ?_); go_wp2_with fail
                refine (match_one r2 Hok.out p hp iface s ts _ (Hs.out.fr ((Hf6.out.tr Hf.out).drew))).mono ?_
                rintro e w7 ⟨rfl, hf7⟩
                rw [Hno.out]
                have hf7 : Fr noB wr w7 := (Fr.refl _ _).drew.tr hf7
                have Hf7 := hide hf7
                refine hK _ _ rfl (inGrow hf7) ?_
                clear hK K hf7
                refine wpMix_nil ?_
                go_wp2_with fail
                go_roundw
                case rel => exact ⟨k + 1, by omega, by have := HLn.out; omega, by go_num, Hf.out.tr Hf7.out⟩
                case measure => simp [intOf]; omega
              · go_wp2_with fail
                refine (law_known _).mono ?_
                rintro e w8 ⟨rfl, hf8⟩
                have Hf8 := hide hf8
                clear hf8
                go_wp2_with fail
                go_ret
                exact ⟨rfl, (Hf6.out.tr Hf.out).tr Hf8.out⟩
end Go.Proofs.Ytgdbafgkledpbaa
