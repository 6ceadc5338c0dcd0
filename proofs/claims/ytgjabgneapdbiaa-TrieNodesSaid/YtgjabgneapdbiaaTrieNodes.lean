/- The law TrieNodes, walked: it returns true. -/
import Derived.Test.YtgjabgneapdbiaaTrieSetLaw
import Derived.Lib.QuoteBits
namespace Go.Proofs.Ytgjabgneapdbiaa
open Go.RowKit Go.BigFrame
set_option linter.unusedSimpArgs false
set_option linter.unusedVariables false
attribute [local irreducible] wpMix wpAnyG

/-- The prefixes of one chain: so many ones, of this length. -/
def chainP (i : Nat) : PrefixM := normP ⟨4294967295, i⟩
theorem chain_ok {i : Nat} (h : i ≤ 31) : okP (chainP i) := okP.norm ⟨by show 4294967295 < 4294967296; decide, by unfold i64b; simp only; omega⟩
def chainL : Nat → List EntM
  | 0 => []
  | k + 1 => putE (chainL k) (chainP k) k
theorem chain_nodes : ∀ k, k ≤ 32 → nodesN ((chainL k).map (·.p)) = k := by decide +kernel
theorem mask_and (n : Int) : ∃ m : Nat, m ≤ 31 ∧ bits BinOp.and IntKind.i64 n 31 = (m : Int) := by
  refine ⟨(BitVec.ofInt 64 n).toNat % 32, by omega, ?_⟩
  show IntKind.i64.wrap ((BitVec.ofInt 64 n &&& BitVec.ofInt 64 31).toNat : Int) = _
  have e : (BitVec.ofInt 64 31).toNat = 2 ^ 5 - 1 := by decide
  rw [BitVec.toNat_and, e, Nat.and_two_pow_sub_one_eq_mod]
  exact Lib.wrap_i64_small _ (by omega)
/-- How many nodes there are. -/
theorem nodes_bd {w : World} {F : Nat → Prop} {g m : Nat} {l : List EntM} (h : Trie w F g l m) : l.length ≤ nodesN (l.map (·.p)) ∧ (l ≠ [] → nodesN (l.map (·.p)) < 2 * l.length) := by
  obtain ⟨t, N, fr, hR, rfl, hn⟩ := h.nodes
  rw [← hn, ids_length]
  refine ⟨by omega, fun hne => ?_⟩
  have := forks_lt hR.good (by
    cases h : t.isNil with
    | false => rfl
    | true => exact absurd (by rw [nil_of h]; rfl) hne)
  omega
def ChainAt (w0 : World) (n g : Nat) (i : Value) (wr : World) : Prop :=
  ∃ (k : Nat) (F : Nat → Prop), k ≤ n ∧ i = .int .i64 k ∧ Trie wr F g (chainL k) (1 + 2 * k) ∧ Fr noB w0 wr ∧ ∀ b, F b → w0.heap.size ≤ b

set_option maxRecDepth 100000 in
set_option maxHeartbeats 4000000 in
theorem law_nodes (s : SlV) (xs : List TActM) (n : Int) (w : World) (hs : TActs w s xs) :
    Calls Try.prog 4 #[.slice s.a s.len s.cap, .int .i64 n] w fun e w' => e = .returned (.bool true) ∧ Fr noB w w' := by
  have Hs := hide hs
  clear hs
  obtain ⟨m, hm31, hm⟩ := mask_and n
  go_enter Try.func4, Try.ntmps4
  go_wp2_with fail
  refine (law_laid s xs w Hs.out).mono ?_
  rintro e w2 ⟨l, g, gx, rfl, hlen, hb⟩
  obtain ⟨hf2, F, G, htr, hdoc, _⟩ := hb
  have Hf2 := hide hf2; have Htr := hide htr
  clear hf2 htr hdoc
  go_wp2_with fail
  refine (trie_new _).mono ?_
  rintro e w3 ⟨gc, rfl, hr3, hf3⟩
  have HS : Hid (ChainAt w2 (m + 1) gc (.int .i64 0) w3) := hide ⟨0, newF w2 w3, Nat.zero_le _, rfl, hr3, hf3, fun b hb => hb.1⟩
  clear hr3 hf3
  go_wp2_with fail
  go_loopw [8] (ChainAt w2 (m + 1) gc) (fun i _ => m + 1 - (intOf i).toNat)
  case atStart => exact HS.out
  case round =>
    obtain ⟨k, F', hk, rfl, hcr, hfr, hF⟩ := hrel
    have Hcr := hide hcr; have Hfr := hide hfr; have HF := hide hF
    clear hcr hfr hF HS
    by_cases hlt : k ≤ m
    · have hp : (PrefixM.mk 4294967295 (k : Int)).wf := ⟨by show 4294967295 < 4294967296; decide, by unfold i64b; simp only; omega⟩
      have Hp := hide hp
      clear hp
      go_wp2_with (refine wpList_build_as rfl 28 _ rfl (PrefixM.mk 4294967295 (k : Int)).cells.toArray (by kernel_rfl) ?_)
      refine (ref3_Norm ⟨4294967295, (k : Int)⟩ Hp.out wr).mono ?_
      rintro e w4 ⟨rfl, hf4⟩
      have Hf4 := hide hf4
      clear hf4
      go_wp2_with fail
      refine (trie_set w4 F' gc (chainL k) _ (Hcr.out.frN Hf4.out) (by omega) (chainP k) (chain_ok (by omega)) (k : Int)).mono ?_
      rintro e w5 ⟨rfl, hr5, hf5⟩
      have hf5' : Fr F' wr w5 := Fr.trans (Hf4.out.mono (fun _ _ h => h.elim)) hf5 (fun _ _ h => h) (fun _ _ h => h)
      have HN := hide (show ChainAt w2 (m + 1) gc (.int .i64 ((k + 1 : Nat) : Int)) w5 from by
        refine ⟨k + 1, gr F' w4 w5, by omega, rfl, hr5.up (by omega), Hfr.out.trans hf5' (fun _ _ h => h) (fun b hb h => by have := HF.out b h; omega), fun b hb => ?_⟩
        have := Hfr.out.size; have := Hf4.out.size
        rcases hb with hb | hb
        · exact HF.out b hb
        · omega)
      clear hr5 hf5 hf5'
      go_wp2_with fail
      go_roundw
      case rel => have := HN.out; simpa using this
      case measure => simp [intOf]; omega
    · obtain rfl : k = m + 1 := by omega
      have Hu : Hid (((nodesN ((chainL (m + 1)).map (·.p)) : Nat) : Int) = (m : Int) + 1) := hide (by rw [chain_nodes (m + 1) (by omega)]; simp)
      obtain ⟨b1, b2⟩ := nodes_bd Htr.out
      generalize hnn : nodesN (l.map (·.p)) = nn at b1 b2
      have Hnn := hide hnn
      obtain ⟨ln, hln⟩ : ∃ n, l.length = n := ⟨_, rfl⟩
      have hne : ln ≠ 0 → l ≠ [] := fun h e => by subst e; simp at hln; omega
      rw [hln] at b1 b2
      have Hln := hide hln
      have hqq : ((m : Int) + 1 == (m : Int) + 1) = true := by simp
      clear hnn hln
      cases ln with
      | zero =>
        go_wp2_with fail
        refine (trie_nodes wr F g l 161 (Htr.out.frN Hfr.out)).mono ?_
        rintro e w4 ⟨rfl, hf4⟩
        rw [Hnn.out]
        have Hf4 := hide (Hfr.out.tr hf4); have Hz4 := hide hf4
        clear hf4
        go_wp2_with fail
        refine (trie_len w4 F g l 161 (Htr.out.frN Hf4.out)).mono ?_
        rintro e w5 ⟨rfl, rfl⟩
        rw [Hln.out]
        go_wp2_with fail
        refine (trie_len w5 F g l 161 (Htr.out.frN Hf4.out)).mono ?_
        rintro e w6 ⟨rfl, rfl⟩
        rw [Hln.out]
        go_wp2_with fail
        refine (trie_nodes w6 F' gc _ _ (Hcr.out.frN Hz4.out)).mono ?_
        rintro e w9 ⟨rfl, hf9⟩
        rw [Hu.out]
        have Hf9 := hide (Hf4.out.tr hf9)
        clear hf9
        go_wp2_with fail
        refine (law_known w9).mono ?_
        rintro e w10 ⟨rfl, hf10⟩
        have Hf10 := hide (Hf9.out.tr hf10)
        clear hf10
        go_wp2_with fail
        go_ret
        exact ⟨rfl, Hf2.out.tr Hf10.out⟩
      | succ j =>
        have b3 := b2 (hne (by omega))
        have hj0 : (((j + 1 : Nat) : Int) == 0) = false := by simp; omega
        have hj79 : j ≤ 79 := by have := Hln.out; omega
        have Hside := hide (show ¬ wrap64 (2 * ((j : Int) + 1)) ≤ (nn : Int) from by rw [IntWalk.wrap64_in _ (by omega)]; omega)
        clear b2 hne
        go_wp2_with fail
        refine (trie_nodes wr F g l 161 (Htr.out.frN Hfr.out)).mono ?_
        rintro e w4 ⟨rfl, hf4⟩
        rw [Hnn.out]
        have Hf4 := hide (Hfr.out.tr hf4); have Hz4 := hide hf4
        clear hf4
        go_wp2_with fail
        refine (trie_len w4 F g l 161 (Htr.out.frN Hf4.out)).mono ?_
        rintro e w5 ⟨rfl, rfl⟩
        rw [Hln.out]
        go_wp2_with fail
        refine (trie_len w5 F g l 161 (Htr.out.frN Hf4.out)).mono ?_
        rintro e w6 ⟨rfl, rfl⟩
        rw [Hln.out]
        go_wp2_with fail
        refine (trie_nodes w6 F g l 161 (Htr.out.frN Hf4.out)).mono ?_
        rintro e w7 ⟨rfl, hf7⟩
        rw [Hnn.out]
        have Hf7 := hide (Hf4.out.tr hf7); have Hz7 := hide (Hz4.out.tr hf7)
        clear hf7
        go_wp2_with fail
        refine (trie_len w7 F g l 161 (Htr.out.frN Hf7.out)).mono ?_
        rintro e w8 ⟨rfl, rfl⟩
        rw [Hln.out]
        go_wp2_with fail
        · refine (trie_nodes w8 F' gc _ _ (Hcr.out.frN Hz7.out)).mono ?_
          rintro e w9 ⟨rfl, hf9⟩
          rw [Hu.out]
          have Hf9 := hide (Hf7.out.tr hf9)
          clear hf9
          go_wp2_with fail
          refine (law_known w9).mono ?_
          rintro e w10 ⟨rfl, hf10⟩
          have Hf10 := hide (Hf9.out.tr hf10)
          clear hf10
          go_wp2_with fail
          go_ret
          exact ⟨rfl, Hf2.out.tr Hf10.out⟩
end Go.Proofs.Ytgjabgneapdbiaa
