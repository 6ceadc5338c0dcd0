/- The law MatchNone, walked: it returns true. -/
import Derived.Test.YtgdbafgkledpbaaMatchKnown
import Derived.Test.YtgdbafgkledpbaaOwn0
import Derived.Test.YtgdbafgkledpbaaAny
namespace Go.Proofs.Ytgdbafgkledpbaa
open Go.RowKit Go.BigFrame
set_option linter.unusedSimpArgs false
set_option linter.unusedVariables false

def offR (iface : ByteArray) : RuleM := { plainR true with quick := true, on := iface ++ ⟨#[120]⟩ }
theorem off_no (iface : ByteArray) (ts : List TableM) (p : PacketM) : ruleB (offR iface) ts iface p = false := by
  have h1 : (iface ++ (⟨#[120]⟩ : ByteArray)).toList = iface.toList ++ [120] := by
    rw [ByteArray.toList_eq, ByteArray.toList_eq, ByteArray.data_append]; simp
  have h2 : ((iface ++ (⟨#[120]⟩ : ByteArray)).toList == iface.toList) = false := by
    rw [h1]
    apply Bool.eq_false_iff.2
    intro h
    have := congrArg List.length (eq_of_beq h)
    simp at this
  have h3 : ((iface ++ (⟨#[120]⟩ : ByteArray)).toList.isEmpty) = false := by rw [h1]; simp
  simp [ruleB, offR, strEq, h2, h3]
theorem off_wf (iface : ByteArray) (h : iface.size ≤ 100) : (offR iface).wf := by
  have e : (iface ++ (⟨#[120]⟩ : ByteArray)).size ≤ maxLen := by
    rw [ByteArray.size_append, show (⟨#[120]⟩ : ByteArray).size = 1 from rfl]; unfold maxLen; omega
  have h := plainR_wf true
  unfold RuleM.wf at h ⊢
  exact ⟨e, h.2⟩

def sh (i0 : Nat) (n : Int) : Int := if (i0 : Int) ≤ n then n + 1 else n
theorem last_shift (ok : RuleM → Bool) (i0 : Nat) : ∀ (ys : List RuleM) (i : Nat) (l : Int), i0 ≤ i → lastGo ok ys (i + 1) (sh i0 l) = sh i0 (lastGo ok ys i l)
  | [], _, _, _ => rfl
  | r :: ys, i, l, h => by
    have hs : sh i0 (i : Int) = ((i + 1 : Nat) : Int) := by unfold sh; rw [if_pos (by omega)]; omega
    simp only [lastGo]
    by_cases ho : ok r = true
    · rw [if_pos ho, if_pos ho]
      by_cases hq : r.quick = true
      · rw [if_pos hq, if_pos hq, hs]
      · rw [if_neg hq, if_neg hq, ← last_shift ok i0 ys (i + 1) (i : Int) (by omega), hs]
    · rw [if_neg ho, if_neg ho]
      exact last_shift ok i0 ys (i + 1) l (by omega)
theorem last_ins (ok : RuleM → Bool) {off : RuleM} (h : ok off = false) (ys : List RuleM) : ∀ (xs : List RuleM) (i : Nat) (l : Int), l < i → lastGo ok (xs ++ off :: ys) i l = sh (i + xs.length) (lastGo ok (xs ++ ys) i l)
  | [], i, l, hl => by
    have hs : sh i l = l := by unfold sh; rw [if_neg (by omega)]
    have h2 := last_shift ok i ys i l (Nat.le_refl _)
    rw [hs] at h2
    rw [List.nil_append, List.nil_append, lastGo, if_neg (by simp [h])]
    exact h2
  | r :: xs, i, l, hl => by
    have e : i + (r :: xs).length = (i + 1) + xs.length := by simp; omega
    have hs : sh ((i + 1) + xs.length) (i : Int) = (i : Int) := by unfold sh; rw [if_neg (by omega)]
    rw [List.cons_append, List.cons_append, lastGo, lastGo, e]
    by_cases ho : ok r = true
    · rw [if_pos ho, if_pos ho]
      by_cases hq : r.quick = true
      · rw [if_pos hq, if_pos hq, hs]
      · rw [if_neg hq, if_neg hq, last_ins ok h ys xs (i + 1) (i : Int) (by omega)]
    · rw [if_neg ho, if_neg ho, last_ins ok h ys xs (i + 1) l (by omega)]

theorem slof_take {α : Type} {w : World} {N : Nat} {cells : α → List Value} {ok : α → Prop} {a : Option Addr} {len cap : Nat} {xs : List α} (h : SlOf w N cells ok ⟨a, len, cap⟩ xs) {k : Nat} (hk : k ≤ len) (c : Nat) : SlOf w N cells ok ⟨a, k, c⟩ (xs.take k) := by
  obtain ⟨h1, h2, h3⟩ := h
  simp only at h1 h2
  refine ⟨by simp; omega, by simp only; omega, ?_⟩
  rcases h3 with rfl | ⟨b, o, e, hb, hx⟩
  · exact .inl (by simp)
  · refine .inr ⟨b, o, e, hb, fun j x hj => hx j x ?_⟩
    rw [List.getElem?_take] at hj
    split at hj
    · exact hj
    · simp at hj
theorem slof_drop {α : Type} {w : World} {N : Nat} {cells : α → List Value} {ok : α → Prop} {a : Option Addr} {len cap : Nat} {xs : List α} (h : SlOf w N cells ok ⟨a, len, cap⟩ xs) {k : Nat} (hk : k ≤ len) (hc : len ≤ cap) (c : Nat) : SlOf w N cells ok ⟨if cap = k then a else a.map (·.add (k * N)), len - k, c⟩ (xs.drop k) := by
  obtain ⟨h1, h2, h3⟩ := h
  simp only at h1 h2
  refine ⟨by simp; omega, by simp only; omega, ?_⟩
  by_cases hl : k = len
  · exact .inl (by rw [hl, h1, List.drop_length])
  rcases h3 with rfl | ⟨b, o, e, hb, hx⟩
  · exact .inl (by simp)
  · simp only at e
    subst e
    rw [if_neg (by omega)]
    refine .inr ⟨b, o + k * N, by simp [Addr.add_lit], hb, fun j x hj => ?_⟩
    rw [List.getElem?_drop] at hj
    have := hx (k + j) x hj
    rw [Nat.add_mul, ← Nat.add_assoc] at this
    exact this

theorem last_bd (ok : RuleM → Bool) : ∀ (rs : List RuleM) (i : Nat) (l : Int), -1 ≤ l → l < i → -1 ≤ lastGo ok rs i l ∧ lastGo ok rs i l < ((i + rs.length : Nat) : Int)
  | [], i, l, h1, h2 => ⟨h1, by simpa [lastGo] using h2⟩
  | r :: rs, i, l, h1, h2 => by
    simp only [lastGo]
    have e : i + (r :: rs).length = (i + 1) + rs.length := by simp; omega
    rw [e]
    split
    · split
      · constructor <;> omega
      · exact last_bd ok rs (i + 1) (i : Int) (by omega) (by omega)
    · exact last_bd ok rs (i + 1) l h1 (by omega)
theorem rule_mem (r : RuleM) : ∀ u ∈ RuleM.cells r, u.oneCell' = true := fun u hu => List.all_eq_true.1 (by simpa using rule_one r) u hu
theorem rule_info : (Try.prog.info? 43).map (fun i => (i.zero, i.size, i.bytes)) = some (some (.agg plainZ.toArray), 28, 248) := by kernel_rfl
theorem slof_nilcap {α : Type} {w : World} {N : Nat} {cells : α → List Value} {ok : α → Prop} {s : SlV} {xs : List α} (h : SlOf w N cells ok s xs) : ∀ x ∈ xs, ok x := fun x hx => by
  obtain ⟨k, hk⟩ := List.getElem?_of_mem hx
  obtain ⟨_, _, _, _, _, ho⟩ := SlOf.at h hk
  exact ho
attribute [local irreducible] wpMix
set_option maxRecDepth 100000 in
set_option maxHeartbeats 1000000 in
theorem law_none (q : SlV) (rs : List RuleM) (s : SlV) (ts : List TableM) (iface : ByteArray) (p : PacketM) (hp : p.wf) (at_ : Int) (w : World) (hq : Rules w q rs) (hs : Tabs w s ts) (hn : q.a = none → q.cap = 0) (hcl : q.len ≤ q.cap) (hb : rs.length * 248 ≤ reachBytes) :
    Calls Try.prog 7 #[.slice q.a q.len q.cap, .slice s.a s.len s.cap, .string iface, p.val, .int .i64 at_] w fun e w' => e = .returned (.bool true) ∧ Fr noB w w' := by
  have hb2 : rs.length ≤ 567489872384 := by unfold reachBytes at hb; omega
  obtain ⟨a, len, cap⟩ := q
  have hlen : len = rs.length := hq.1
  have hl2 : len ≤ 567489872384 := by omega
  have Hn := hide hn; have Hb := hide hb; have Hb2 := hide hb2; have Hcl := hide hcl
  have Hs := hide hs; have Hlen := hide hlen; have Hq := hide hq
  clear hs hlen hq hn hb hb2 hcl
  show Calls Try.prog 7 #[.slice a len cap, .slice s.a s.len s.cap, .string iface, .agg p.cells.toArray, .int .i64 at_] w _
  go_enter Try.func7, Try.ntmps7
  go_upto_region 1 with (fail)
  refine wp_gen (fun w2 => Blk w2 w.heap.size p.cells.toArray 30 ∧ Fr noB w w2) ⟨Blk.alloc_new _ _ _, (Fr.refl _ _).alloc _⟩ ?_
  rintro w1 ⟨hb1, hf⟩
  have HB1 := hide hb1.cells; have Hf := hide hf
  clear hb1 hf
  go_wp2_with fail
  refine (law_heavy ⟨a, len, cap⟩ rs s ts _ (SlOf.fr Hq.out Hf.out (fun _ _ h => h) (fun _ h => h)) (Hs.out.fr Hf.out)).mono ?_
  rintro e w2 ⟨b, rfl, hf2⟩
  have Hf2 := hide (Hf.out.tr hf2)
  have HB2 := hide (HB1.out.fr hf2 (fun h => h))
  clear hf2
  cases b with
  | true =>
    go_wp2_with fail
    go_ret
    exact ⟨rfl, Hf2.out⟩
  | false =>
    go_wp2_with (refine wpList_load_atw rfl 30 (.tmp 8) rfl _ _ rfl p.cells HB2.out _ Try.underlying30 rfl (by kernel_rfl) ?_)
    refine (law_long p _).mono ?_
    rintro e w3 ⟨b, rfl, hf3⟩
    have Hf3 := hide (Hf2.out.tr hf3)
    have HB3 := hide (HB2.out.fr hf3 (fun h => h))
    clear hf3
    cases b with
    | true =>
      go_wp2_with fail
      go_ret
      exact ⟨rfl, Hf3.out⟩
    | false =>
      by_cases h1 : 100 < iface.size
      · go_wp2_with fail
        go_ret
        exact ⟨rfl, Hf3.out⟩
      have Hg0 := hide (show w.heap.size < w3.heap.size from block_of_cell (HB3.out 0 _ rfl))
      clear HB1 HB2 Hf Hf2
      go_wp2_with fail
      refine (law_plain true _).mono ?_
      rintro e w4 ⟨rfl, hf4⟩
      have Hf4 := hide (Hf3.out.tr hf4)
      have HB4 := hide (HB3.out.fr hf4 (fun h => h))
      have Hg4 := hide (show w.heap.size < w4.heap.size from by have := Hg0.out; have := hf4.size; omega)
      clear hf4
      go_upto_region 4 with (refine wpList_store_row rfl 43 (.tmp 11) (.tmp 27) rfl _ (plainR true).cells.toArray rfl rfl _ _ (heap_alloc_new _ _) (by kernel_rfl) rfl (rule_one _) ?_)
      refine wp_gen (fun w2 => Blk w2 w4.heap.size (plainR true).cells.toArray 43 ∧ Fr noB w4 w2) ⟨(Blk.alloc_new _ _ _).setRow, ((Fr.refl _ _).alloc _).setRow (.inl (Nat.le_refl _)) _⟩ ?_
      rintro w5 ⟨hb5, hf5⟩
      have hc5 : w5.cell? ⟨w4.heap.size, 3, none⟩ = some (.string ⟨#[]⟩) := hb5.cell 3
      have hz5 : w5.frozen? ⟨w4.heap.size, 3, none⟩ = false := hb5.free 3
      have HB5 := hide hb5; have Hf5 := hide hf5
      clear hb5 hf5
      go_upto_region 5 with (fail)
      refine wp_gen (fun w2 => Blk w2 w4.heap.size ((plainR true).cells.toArray.setIfInBounds 3 (.string (iface ++ ⟨#[120]⟩))) 43 ∧ Fr noB w4 w2) ⟨HB5.out.set 3 _, Hf5.out.setCell (p := ⟨w4.heap.size, 3, none⟩) (.inl (Nat.le_refl _)) _⟩ ?_
      rintro w6 ⟨hb6, hf6⟩
      have hc6 : w6.cell? ⟨w4.heap.size, 2, none⟩ = some (.bool false) := hb6.cell 2
      have hz6 : w6.frozen? ⟨w4.heap.size, 2, none⟩ = false := hb6.free 2
      have HB6 := hide hb6; have Hf6 := hide hf6
      clear hb6 hf6 hc5 hz5
      go_upto_region 6 with (fail)
      refine wp_gen (fun w2 => Blk w2 w4.heap.size (offR iface).cells.toArray 43 ∧ Fr noB w4 w2) ⟨HB6.out.set 2 _, Hf6.out.setCell (p := ⟨w4.heap.size, 2, none⟩) (.inl (Nat.le_refl _)) _⟩ ?_
      rintro w7 ⟨hb7, hf7⟩
      have HB7 := hide hb7.cells; have Hf7 := hide hf7
      clear hb7 hf7 hc6 hz6
      go_upto_region 7 with (fail)
      obtain ⟨k, hk, hke⟩ := mod_nat at_ (len + 1) (by omega)
      have hke' : (bits .and .i64 at_ 65535).tmod ((len : Int) + 1) = (k : Int) := by rw [← hke]; congr 1
      rw [hke']
      clear hke hke'
      have hcl : k ≤ cap := by have := Hcl.out; omega
      have hkl : k ≤ len := by omega
      have HS := hide (show ∀ W, Fr noB w W → Rules W ⟨a, k, cap⟩ (rs.take k) from fun W hW => slof_take (SlOf.fr Hq.out hW (fun _ _ h => h) (fun _ h => h)) hkl cap)
      have HD := hide (show ∀ W, Fr noB w W → Rules W ⟨if cap = k then a else a.map (·.add (k * 28)), len - k, cap - k⟩ (rs.drop k) from fun W hW => slof_drop (SlOf.fr Hq.out hW (fun _ _ h => h) (fun _ h => h)) hkl Hcl.out (cap - k))
      have HF7 := hide (show Fr noB w w7 from Hf4.out.tr Hf7.out)
      have hl3 : (rs.take k).length = k := by rw [List.length_take]; have := Hlen.out; omega
      have hl4 : (rs.drop k).length = len - k := by rw [List.length_drop, Hlen.out]
      have HL3 := hide hl3; have HL4 := hide hl4
      clear hl3 hl4
      refine any_start (fun W => ∃ z : Grow w7, W = z.v) 13 rfl (by kernel_rfl) (inGrow (Fr.refl _ _).drew) ?_
      have hS : ∃ z : Grow w7, w7.drew = z.v := inGrow (Fr.refl _ _).drew
      (refine any_calm 1 (by simp only [List.getElem?_toArray, List.getElem?_cons_succ, List.getElem?_cons_zero]; exact rfl) (by kernel_rfl) (by kernel_rfl) (by kernel_rfl) (by assumption) (by rfl) (by rfl) (fun K hK => ?_); go_big_quiet_op; refine hK _ ?_; clear hK K)
      (refine any_calm 2 (by simp only [List.getElem?_toArray, List.getElem?_cons_succ, List.getElem?_cons_zero]; exact rfl) (by kernel_rfl) (by kernel_rfl) (by kernel_rfl) (by assumption) (by rfl) (by rfl) (fun K hK => ?_); go_big_quiet_op; refine hK _ ?_; clear hK K)
      (refine any_calm 3 (by simp only [List.getElem?_toArray, List.getElem?_cons_succ, List.getElem?_cons_zero]; exact rfl) (by kernel_rfl) (by kernel_rfl) (by kernel_rfl) (by assumption) (by rfl) (by rfl) (fun K hK => ?_); go_big_quiet_op; refine hK _ ?_; clear hK K)
      refine any_load_at 5 (by simp only [List.getElem?_toArray, List.getElem?_cons_succ, List.getElem?_cons_zero]; exact rfl) (by kernel_rfl) (by kernel_rfl) (by kernel_rfl) hS (by rfl) 43 (.tmp 11) (by rfl) w4.heap.size 0 (by rfl) (offR iface).cells ?hc _ Try.underlying43 rfl (by kernel_rfl) ?_
      case hc => rintro _ ⟨z, rfl⟩; exact HB7.out.fr z.fr (fun h => h)
      simp only [Act.put, List.setIfInBounds_toArray, List.set_cons_succ, List.set_cons_zero]
      (refine any_calm 8 (by simp only [List.getElem?_toArray, List.getElem?_cons_succ, List.getElem?_cons_zero]; exact rfl) (by kernel_rfl) (by kernel_rfl) (by kernel_rfl) (by assumption) (by rfl) (by rfl) (fun K hK => ?_); go_big_quiet_op; refine hK _ ?_; clear hK K)
      (refine any_calm 9 (by simp only [List.getElem?_toArray, List.getElem?_cons_succ, List.getElem?_cons_zero]; exact rfl) (by kernel_rfl) (by kernel_rfl) (by kernel_rfl) (by assumption) (by rfl) (by rfl) (fun K hK => ?_); go_big_quiet_op; refine hK _ ?_; clear hK K)
      have hck : cap = k ∨ ¬ cap = k := by omega
      have hBt : (k + 1) * 248 ≤ 140737488355328 := by have := Hb2.out; have := Hlen.out; omega
      have hBm : k + 1 ≤ maxLen := by have := Hb2.out; have := Hlen.out; unfold maxLen; omega
      have Hnil3 : Hid (∀ b : Option Addr, b = (if cap = k then a else a.map (·.add (k * 28))) → b = none → cap - k = 0) := hide (fun b hb h => by
        have : a = none := by
          rw [h] at hb
          split at hb
          · exact hb.symm
          · cases a with
            | none => rfl
            | some x => simp at hb
        have := Hn.out this
        omega)
      rcases hck with hck | hck
      all_goals
        have hd := HD.out
        have hn3 := Hnil3.out
        first | rw [if_pos hck] at hd hn3 | rw [if_neg hck] at hd hn3
        have Hd := hide hd; have Hn3 := hide hn3
        clear hd hn3
        (refine any_calm 10 (by simp only [List.getElem?_toArray, List.getElem?_cons_succ, List.getElem?_cons_zero]; exact rfl) (by kernel_rfl) (by kernel_rfl) (by kernel_rfl) (by assumption) (by rfl) (by rfl) (fun K hK => ?_); go_big_quiet_op; refine hK _ ?_; clear hK K)
        have Hck := hide hck
        clear hck
        refine any_app2 (w0 := w7) (N := 28) (cells := RuleM.cells) (ok := RuleM.wf) (q := ⟨a, k, cap⟩) (ys := rs.take k) 0 4 6 7 38 42 44 45 41 43 rfl rfl rfl rfl rfl rfl rfl rfl rfl rfl rfl rfl rfl rfl rfl rfl
          (by kernel_rfl) (by kernel_rfl) (by kernel_rfl) (by kernel_rfl) (by kernel_rfl) (by kernel_rfl) (by decide) (by simp) (by simp) (by simp) Try.underlying22 _ 248 rule_info (by kernel_rfl) (by decide) (by decide) RuleM.length rule_mem
          (offR iface) (off_wf iface (by omega)) (by kernel_rfl) rfl rfl (fun W hW => HS.out _ (HF7.out.tr hW)) Hn.out (by rw [HL3.out]; exact hBt) (by rw [HL3.out]; exact hBm) (Fr.refl _ _).drew ?_
        intro v0 v1 v2 s2 w9 hn2 hf9
        simp only [Act.put, List.setIfInBounds_toArray, List.set_cons_succ, List.set_cons_zero]
        refine any_append_new (N := 28) (cells := RuleM.cells) (s := s2) (ok := RuleM.wf) (ys := rs.drop k) 11 (by simp only [List.getElem?_toArray, List.getElem?_cons_succ, List.getElem?_cons_zero]; exact rfl) (by kernel_rfl) (by rfl) (.tmp 45) (.tmp 48) (by rfl) Try.underlying22 _ 248 rule_info (by kernel_rfl) (by decide) RuleM.length rule_mem
          (by rfl) hn2 hf9 (by have := Hck.out; go_simp) (Hd.out _ (HF7.out.tr hf9)) (Hn3.out _ rfl) (by have := HL3.out; have := HL4.out; have := Hb2.out; have := Hlen.out; simp [maxLen]; omega) (by have := HL3.out; have := HL4.out; have := Hb2.out; have := Hlen.out; simp; omega) ?_
        intro s3 w10 hn3 hf10 _
        simp only [Act.put, List.setIfInBounds_toArray, List.set_cons_succ, List.set_cons_zero]
        have hS : ∃ z : Grow w7, w10 = z.v := inGrow hf10
        (refine any_calm 12 (by simp only [List.getElem?_toArray, List.getElem?_cons_succ, List.getElem?_cons_zero]; exact rfl) (by kernel_rfl) (by kernel_rfl) (by kernel_rfl) (by assumption) (by rfl) (by rfl) (fun K hK => ?_); go_big_quiet_op; refine hK _ ?_; clear hK K)
        refine any_done (by kernel_rfl) ?_
        have HF10 := hide (HF7.out.tr hf10)
        have HB10 := hide (HB4.out.fr (Hf7.out.tr hf10) (fun h => h))
        have Hwf := hide (slof_nilcap Hq.out)
        have HQ10 := hide (show Rules w10 s3 (rs.take k ++ [offR iface] ++ rs.drop k) from hn3.slof RuleM.length (fun x hx => by
          simp only [List.mem_append, List.mem_singleton] at hx
          rcases hx with (hx | rfl) | hx
          · exact Hwf.out x (List.mem_of_mem_take hx)
          · exact off_wf iface (by omega)
          · exact Hwf.out x (List.mem_of_mem_drop hx)))
        have HM := hide (show lastI (rs.take k ++ [offR iface] ++ rs.drop k) ts iface p = sh k (lastI rs ts iface p) from by
          have h := last_ins (fun r => ruleB r ts iface p) (off_no iface ts p) (rs.drop k) (rs.take k) 0 (-1) (by omega)
          rw [List.take_append_drop, HL3.out, Nat.zero_add] at h
          rw [List.append_assoc]
          exact h)
        clear hn2 hf9 hn3 hf10 hS HS HD Hd Hn3 Hnil3 hBt hBm
        go_wp2_with (refine wpList_load_atw rfl 30 (.tmp 8) rfl _ _ rfl p.cells HB10.out _ Try.underlying30 rfl (by kernel_rfl) ?_)
        refine (ref_last ⟨a, len, cap⟩ rs p hp iface s ts _ (SlOf.fr Hq.out HF10.out (fun _ _ h => h) (fun _ h => h)) (Hs.out.fr HF10.out)).mono ?_
        rintro e w11 ⟨rfl, hf11⟩
        have HF11 := hide (HF10.out.tr hf11)
        have HB11 := hide (HB10.out.fr hf11 (fun h => h))
        have HQ11 := hide (show Rules w11 s3 _ from SlOf.fr HQ10.out hf11 (fun _ _ h => h) (fun _ h => h))
        clear hf11
        have hnb : -1 ≤ lastI rs ts iface p ∧ lastI rs ts iface p ≤ 1000000000000 := by
          have h := last_bd (fun r => ruleB r ts iface p) rs 0 (-1) (by omega) (by omega)
          have := Hb2.out
          unfold lastI
          constructor
          · exact h.1
          · have := h.2; omega
        generalize lastI rs ts iface p = n at *
        obtain ⟨hnb1, hnb2⟩ := hnb
        by_cases hnk : (k : Int) ≤ n
        · have HM2 := hide (show lastI (rs.take k ++ [offR iface] ++ rs.drop k) ts iface p = n + 1 from by rw [HM.out]; unfold sh; rw [if_pos hnk])
          go_wp2_with (refine wpList_load_atw rfl 30 (.tmp 8) rfl _ _ rfl p.cells HB11.out _ Try.underlying30 rfl (by kernel_rfl) ?_)
          refine (match_last s3 _ p hp iface s ts _ HQ11.out (Hs.out.fr HF11.out)).mono ?_
          rintro e w12 ⟨rfl, hf12⟩
          rw [HM2.out]
          have HF12 := hide (HF11.out.tr hf12)
          clear hf12
          go_wp2_with fail
          refine (law_known _).mono ?_
          rintro e w8 ⟨rfl, hf8⟩
          have Hf8 := hide hf8
          clear hf8
          go_wp2_with fail
          go_ret
          exact ⟨rfl, HF12.out.tr Hf8.out⟩
        · have HM2 := hide (show lastI (rs.take k ++ [offR iface] ++ rs.drop k) ts iface p = n from by rw [HM.out]; unfold sh; rw [if_neg hnk])
          go_wp2_with (refine wpList_load_atw rfl 30 (.tmp 8) rfl _ _ rfl p.cells HB11.out _ Try.underlying30 rfl (by kernel_rfl) ?_)
          refine (match_last s3 _ p hp iface s ts _ HQ11.out (Hs.out.fr HF11.out)).mono ?_
          rintro e w12 ⟨rfl, hf12⟩
          rw [HM2.out]
          have HF12 := hide (HF11.out.tr hf12)
          clear hf12
          go_wp2_with fail
          refine (law_known _).mono ?_
          rintro e w8 ⟨rfl, hf8⟩
          have Hf8 := hide hf8
          clear hf8
          go_wp2_with fail
          go_ret
          exact ⟨rfl, HF12.out.tr Hf8.out⟩
end Go.Proofs.Ytgdbafgkledpbaa
