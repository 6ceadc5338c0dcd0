/- The law MatchSides, walked: it returns true. -/
import Derived.Test.YtgdbafgkledpbaaMatchKnown
namespace Go.Proofs.Ytgdbafgkledpbaa
open Go.RowKit Go.BigFrame
set_option linter.unusedSimpArgs false
set_option linter.unusedVariables false

def fullP : PortsM := ⟨0, 65535⟩
def pfxS (x : PrefixM) : SideM := ⟨false, ⟨#[]⟩, x, fullP⟩
def anyS : SideM := ⟨true, ⟨#[]⟩, ⟨0, 0⟩, fullP⟩
def tabS (c : UInt8) : SideM := ⟨false, ⟨#[c]⟩, ⟨0, 0⟩, fullP⟩
theorem pfxS_wf {x : PrefixM} (h : x.wf) : (pfxS x).wf := by
  obtain ⟨h1, h2⟩ := h
  simp [pfxS, fullP, SideM.wf, PrefixM.wf, PortsM.wf, i64b, maxLen, ByteArray.size]
  exact ⟨h1, h2⟩
theorem anyS_wf : anyS.wf := by simp [anyS, fullP, SideM.wf, PrefixM.wf, PortsM.wf, i64b, maxLen, ByteArray.size]
theorem tabS_wf (c : UInt8) : (tabS c).wf := by simp [tabS, fullP, SideM.wf, PrefixM.wf, PortsM.wf, i64b, maxLen, ByteArray.size]
theorem side_pfx {x : PrefixM} {n : Nat} {port : Int} (h1 : ¬ port < 0) (h2 : ¬ 65535 < port) (ts : List TableM) : sideB (pfxS x) ts n port = hasB x.addr x.len n := by
  have h : ¬ (port < 0 ∨ 65535 < port) := by omega
  have e : (⟨#[]⟩ : ByteArray).toList.isEmpty = true := by decide +kernel
  simp [sideB, pfxS, fullP, h, e]
theorem side_any {n : Nat} {port : Int} (h1 : ¬ port < 0) (h2 : ¬ 65535 < port) (ts : List TableM) : sideB anyS ts n port = true := by
  have h : ¬ (port < 0 ∨ 65535 < port) := by omega
  simp [sideB, anyS, fullP, h]
theorem side_t {q : SlV} {ls : List PrefixM} {n : Nat} {port : Int} (h1 : ¬ port < 0) (h2 : ¬ 65535 < port) : sideB (tabS 116) [⟨⟨⟨#[116]⟩, q⟩, ls⟩] n port = ls.any (fun p => hasB p.addr p.len n) := by
  have h : ¬ (port < 0 ∨ 65535 < port) := by omega
  have e : (⟨#[116]⟩ : ByteArray).toList.isEmpty = false := by decide +kernel
  simp [sideB, tabS, fullP, h, e, inB, strEq]
theorem side_u {q : SlV} {ls : List PrefixM} {n : Nat} {port : Int} (h1 : ¬ port < 0) (h2 : ¬ 65535 < port) : sideB (tabS 117) [⟨⟨⟨#[116]⟩, q⟩, ls⟩] n port = false := by
  have h : ¬ (port < 0 ∨ 65535 < port) := by omega
  have e : (⟨#[117]⟩ : ByteArray).toList.isEmpty = false := by decide +kernel
  have e2 : ((⟨#[116]⟩ : ByteArray).toList == (⟨#[117]⟩ : ByteArray).toList) = false := by decide +kernel
  simp [sideB, tabS, fullP, h, e, inB, strEq, e2]

theorem any_take {α : Type} (f : α → Bool) {l : List α} {k : Nat} {x : α} (h : l[k]? = some x) : (l.take (k + 1)).any f = ((l.take k).any f || f x) := by
  obtain ⟨hk, rfl⟩ := List.getElem?_eq_some_iff.1 h
  rw [List.take_succ_eq_append_getElem hk, List.any_append, List.any_cons, List.any_nil, Bool.or_false]
/-- The head of the loop. -/
def SidesAt (ls : List PrefixM) (n : Nat) (w : World) (some i : Value) (wr : World) : Prop :=
  ∃ k : Nat, k ≤ ls.length ∧ i = .int .i64 k ∧ some = .bool ((ls.take k).any (fun p => hasB p.addr p.len n)) ∧ Fr noB w wr

attribute [local irreducible] wpMix
set_option maxRecDepth 100000 in
set_option maxHeartbeats 1000000 in
theorem law_sides (q : SlV) (ls : List PrefixM) (n : Nat) (hn : n < 4294967296) (port : Int) (w : World) (hq : SlOf w 2 PrefixM.cells PrefixM.wf q ls) :
    Calls Try.prog 6 #[.slice q.a q.len q.cap, .int .u32 (n : Nat), .int .i64 port] w fun e w' => e = .returned (.bool true) ∧ Fr noB w w' := by
  obtain ⟨a, len, cap⟩ := q
  have hlen : len = ls.length := hq.1
  have hmax : len ≤ maxLen := hq.2.1
  unfold maxLen at hmax
  have Hlen := hide hlen; have Hq := hide hq
  clear hlen hq
  by_cases h1 : 60 < len
  · go_enter Try.func6, Try.ntmps6
    go_wp2_with fail
    go_ret
    exact ⟨rfl, Fr.refl _ _⟩
  by_cases h2 : port < 0
  · go_enter Try.func6, Try.ntmps6
    go_wp2_with fail
    go_ret
    exact ⟨rfl, Fr.refl _ _⟩
  by_cases h3 : 65535 < port
  · go_enter Try.func6, Try.ntmps6
    go_wp2_with fail
    go_ret
    exact ⟨rfl, Fr.refl _ _⟩
  go_enter Try.func6, Try.ntmps6
  go_upto_region 5 with (refine wpList_buildSlice rfl 23 1 _ rfl #[(0, .agg (NamedM.cells ⟨⟨#[116]⟩, ⟨a, len, cap⟩⟩).toArray)] (by kernel_rfl) Try.underlying23 (.agg #[.string ⟨#[]⟩, .slice none 0 0]) 2 (by kernel_rfl) (NamedM.cells ⟨⟨#[116]⟩, ⟨a, len, cap⟩⟩).toArray (by decide) (by decide) (by kernel_rfl) ?_)
  refine wp_gen (fun w2 => Blk w2 w.heap.size fullP.cells.toArray 34 ∧ Tabs w2 ⟨some ⟨w.heap.size + 1, 0, none⟩, 1, 1⟩ [⟨⟨⟨#[116]⟩, ⟨a, len, cap⟩⟩, ls⟩] ∧ Fr noB w w2) ⟨?_, ?_, ?_⟩ ?_
  · exact (Blk.alloc_new _ _ _).fr ((Fr.refl noB _).alloc _) (fun h => h)
  · have hb := Blk.alloc_new (w.alloc (.cells #[.int .i64 0, .int .i64 65535] 34)) (NamedM.cells ⟨⟨#[116]⟩, ⟨a, len, cap⟩⟩).toArray 53
    rw [World.size_alloc] at hb
    refine slof_blk (cells := TableM.cells) (ok := TableM.ok _) (xs := [⟨⟨⟨#[116]⟩, ⟨a, len, cap⟩⟩, ls⟩]) (junk := []) (fun _ => rfl) hb (fun x hx => ?_) 1 (by simp [maxLen])
    simp only [List.mem_singleton] at hx
    subst hx
    exact ⟨by simp [NamedM.wf, maxLen, ByteArray.size], SlOf.fr Hq.out (((Fr.refl noB _).alloc _).alloc _) (fun _ _ h => h) (fun _ h => h)⟩
  · exact ((Fr.refl _ _).alloc _).alloc _
  rintro w1 ⟨hb, ht, hf⟩
  have HB := hide hb.cells; have HT := hide ht; have Hf := hide hf
  clear hb ht hf
  go_wp2_with fail
  go_loopw [9, 10] (SidesAt ls n w1) (fun _ i _ => len - (intOf i).toNat)
  case atStart => exact ⟨0, Nat.zero_le _, rfl, rfl, Fr.refl _ _⟩
  case round =>
    obtain ⟨k, hk, rfl, rfl, hf⟩ := hrel
    have Hf1 := hide hf
    have hcp : ∀ W, (∃ z : Grow wr, W = z.v) → CellsAt W w.heap.size 0 fullP.cells := by rintro _ ⟨z, rfl⟩; exact (HB.out.fr hf (fun h => h)).fr z.fr (fun h => h)
    have HCP := hide hcp
    clear hf hcp
    by_cases hlt : k < len
    · have hk2 : k < ls.length := by have := Hlen.out; omega
      have hx : ls[k]? = some ls[k] := List.getElem?_eq_getElem hk2
      have Htk := hide (any_take (fun p => hasB p.addr p.len n) hx)
      obtain ⟨b, o, rfl, hbw, hc, hok⟩ := SlOf.at (SlOf.fr Hq.out (Hf.out.tr Hf1.out) (fun _ _ h => h) (fun _ h => h)) hx
      have Hx := hide hx; have Hok := hide hok; have Hc := hide hc
      clear hx hk hok hc
      generalize ls[k] = r at *
      have hmul : ((k : Int) * 2).toNat = k * 2 := by omega
      have hCR : ∀ W, (∃ z : Grow wr, W = z.v) → CellsAt W b (o + k * 2) r.cells := by rintro _ ⟨z, rfl⟩; exact Hc.out.fr z.fr (fun h => h)
      have HCR := hide hCR
      clear hCR
      generalize hS : (ls.take k).any (fun p => hasB p.addr p.len n) = sm
      have HS := hide hS
      clear hS
      cases sm with
      | true =>
        go_upto_region 9 with (fail)
        refine wp_region_mix (fun W => ∃ z : Grow wr, W = z.v) (by kernel_rfl) (by kernel_rfl) (inGrow (Fr.refl _ _).drew) ?_
        repeat (first | (refine wpMix_skip rfl ?_; simp only [Act.put, List.setIfInBounds_toArray, List.set_cons_succ, List.set_cons_zero]) | (refine wpMix_calm rfl rfl (fun K hK => ?_); go_big_quiet_op; refine hK _ ?_; clear hK K))
        refine wpMix_nil ?_
        go_wp2_with fail
        go_roundw
        case rel => exact ⟨k + 1, by omega, by go_num, by rw [Htk.out, HS.out]; rfl, Hf1.out.drew⟩
        case measure => simp [intOf]; omega
      | false =>
        go_upto_region 9 with (fail)
        refine wp_region_mix (fun W => ∃ z : Grow wr, W = z.v) (by kernel_rfl) (by kernel_rfl) (inGrow (Fr.refl _ _).drew) ?_
        iterate 5 (first | (refine wpMix_skip rfl ?_; simp only [Act.put, List.setIfInBounds_toArray, List.set_cons_succ, List.set_cons_zero]) | (refine wpMix_calm rfl rfl (fun K hK => ?_); go_big_quiet_op; refine hK _ ?_; clear hK K))
        refine wpMix_load_atw rfl 32 (.tmp 36) rfl _ _ rfl [Value.int .u32 (r.addr : Nat), .int .i64 r.len] HCR.out _ Try.underlying32 rfl (by kernel_rfl) ?_
        simp only [Act.put, List.setIfInBounds_toArray, List.set_cons_succ, List.set_cons_zero]
        refine wpMix_load_atw rfl 34 (.tmp 7) rfl _ _ rfl [Value.int .i64 0, .int .i64 65535] HCP.out _ Try.underlying34 rfl (by kernel_rfl) ?_
        simp only [Act.put, List.setIfInBounds_toArray, List.set_cons_succ, List.set_cons_zero]
        iterate 3 (first | (refine wpMix_skip rfl ?_; simp only [Act.put, List.setIfInBounds_toArray, List.set_cons_succ, List.set_cons_zero]) | (refine wpMix_calm rfl rfl (fun K hK => ?_); go_big_quiet_op; refine hK _ ?_; clear hK K))
        refine wpMix_spine rfl rfl (fun K hK => ?_); go_wp2_with fail
        refine (match_side (pfxS r) (pfxS_wf Hok.out) ⟨none, 0, 0⟩ [] n hn port _ ⟨rfl, Nat.zero_le _, .inl rfl⟩).mono ?_
        rintro e w4 ⟨rfl, hf4⟩
        rw [side_pfx (by omega) (by omega)]
        have hf4 : Fr noB wr w4 := (Fr.refl _ _).drew.tr hf4
        have Hf4 := hide hf4
        refine hK _ _ rfl (inGrow hf4) ?_
        clear hK K hf4
        repeat (first | (refine wpMix_skip rfl ?_; simp only [Act.put, List.setIfInBounds_toArray, List.set_cons_succ, List.set_cons_zero]) | (refine wpMix_calm rfl rfl (fun K hK => ?_); go_big_quiet_op; refine hK _ ?_; clear hK K))
        refine wpMix_nil ?_
        go_wp2_with fail
        go_roundw
        case rel => exact ⟨k + 1, by omega, by go_num, by rw [Htk.out, HS.out]; rfl, Hf1.out.tr Hf4.out⟩
        case measure => simp [intOf]; omega
    · have hkl : k = ls.length := by have := Hlen.out; omega
      have hS : (ls.take k).any (fun p => hasB p.addr p.len n) = ls.any (fun p => hasB p.addr p.len n) := by rw [hkl, List.take_length]
      rw [hS]
      clear hS hkl
      generalize hA : ls.any (fun p => hasB p.addr p.len n) = sm
      have HA := hide hA
      have HP0 := hide (HCP.out wr (inGrow (Fr.refl _ _)))
      clear hA
      go_wp2_with (refine wpList_load_atw rfl 34 (.tmp 7) rfl _ _ rfl [Value.int .i64 0, .int .i64 65535] HP0.out _ Try.underlying34 rfl (by kernel_rfl) ?_)
      refine (match_side anyS anyS_wf ⟨some ⟨w.heap.size + 1, 0, none⟩, 1, 1⟩ _ n hn port _ (HT.out.fr Hf1.out)).mono ?_
      rintro e w4 ⟨rfl, hf4⟩
      rw [side_any (by omega) (by omega)]
      have Hf4 := hide hf4
      have HP4 := hide (HCP.out w4 (inGrow hf4))
      clear hf4
      go_wp2_with (refine wpList_load_atw rfl 34 (.tmp 7) rfl _ _ rfl [Value.int .i64 0, .int .i64 65535] HP4.out _ Try.underlying34 rfl (by kernel_rfl) ?_)
      refine (match_side (tabS 116) (tabS_wf _) ⟨some ⟨w.heap.size + 1, 0, none⟩, 1, 1⟩ _ n hn port _ (HT.out.fr (Hf1.out.tr Hf4.out))).mono ?_
      rintro e w5 ⟨rfl, hf5⟩
      rw [side_t (by omega) (by omega), HA.out]
      have Hf5 := hide (Hf4.out.tr hf5)
      have HP5 := hide (HCP.out w5 (inGrow Hf5.out))
      clear hf5
      go_wp2_with (refine wpList_load_atw rfl 34 (.tmp 7) rfl _ _ rfl [Value.int .i64 0, .int .i64 65535] HP5.out _ Try.underlying34 rfl (by kernel_rfl) ?_)
      refine (match_side (tabS 117) (tabS_wf _) ⟨some ⟨w.heap.size + 1, 0, none⟩, 1, 1⟩ _ n hn port _ (HT.out.fr (Hf1.out.tr Hf5.out))).mono ?_
      rintro e w6 ⟨rfl, hf6⟩
      rw [side_u (by omega) (by omega)]
      have Hf6 := hide (Hf5.out.tr hf6)
      clear hf6
      go_wp2_with fail
      refine (law_known _).mono ?_
      rintro e w7 ⟨rfl, hf7⟩
      have Hf7 := hide (Hf6.out.tr hf7)
      clear hf7
      go_wp2_with fail
      go_ret
      exact ⟨rfl, (Hf.out.tr Hf1.out).tr Hf7.out⟩
end Go.Proofs.Ytgdbafgkledpbaa
